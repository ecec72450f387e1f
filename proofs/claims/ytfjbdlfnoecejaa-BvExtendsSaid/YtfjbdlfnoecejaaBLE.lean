/- The law BvExtends. -/
import Derived.Test.YtfjbdlfnoecejaaBLD
import Derived.Test.YtfjbdlfnoecejaaBLW
namespace Go.Proofs.Ytfjbdlfnoecejaa
set_option maxRecDepth 100000

def extB {w : Nat} (sg : Bool) (a : BitVec w) (s : Nat) : BitVec s := (if (sg && a.msb) = true then E a ||| ~~~maskN w else E a).setWidth s
theorem extB_bit {w s : Nat} (hw : w ≤ 128) (hs : s ≤ 128) (sg : Bool) (a : BitVec w) (i : Nat) : (extB sg a s).getLsbD i = (decide (i < s) && (if i < w then a.getLsbD i else (sg && a.msb))) := by
  rw [extB, BitVec.getLsbD_setWidth]
  by_cases hi : i < s
  · have h128 : i < 128 := by omega
    split
    · rename_i h
      rw [BitVec.getLsbD_or, E_bit hw, BitVec.getLsbD_not, maskN_bit w _ hw]
      by_cases h2 : i < w
      · simp [hi, h2]
      · simp [hi, h2, h128, h]
    · rename_i h
      rw [E_bit hw]
      by_cases h2 : i < w
      · simp [hi, h2]
      · have : a.getLsbD i = false := BitVec.getLsbD_of_ge a i (by omega)
        have h' : (sg && a.msb) = false := by simpa using h
        rw [this, if_neg h2, h']
  · simp [hi]
theorem ext_low {w s : Nat} (hw : w ≤ s) (hs : s ≤ 128) (sg : Bool) (a : BitVec w) : (extB sg a s).setWidth w = a := by
  apply BitVec.eq_of_getLsbD_eq
  intro i hi
  have : i < s := by omega
  rw [BitVec.getLsbD_setWidth, extB_bit (by omega) hs]
  simp [hi, this]
theorem ext_msb {w s : Nat} (h1 : 1 ≤ w) (hw : w ≤ s) (hs : s ≤ 128) (sg : Bool) (a : BitVec w) : (extB sg a s).msb = (a.msb && (sg || decide (s = w))) := by
  rw [BitVec.msb_eq_getLsbD_last, extB_bit (by omega) hs]
  have c : s - 1 < s := by omega
  by_cases h : s = w
  · subst h
    simp [c, BitVec.msb_eq_getLsbD_last]
  · have c2 : ¬ s - 1 < w := by omega
    simp [c, c2, h, Bool.and_comm]
theorem ext_sign {w s : Nat} (hw : w ≤ s) (hs : s ≤ 128) (a : BitVec w) : extB true a s = a.signExtend s := by
  apply BitVec.eq_of_getLsbD_eq
  intro i hi
  rw [extB_bit (by omega) hs, BitVec.getLsbD_signExtend]
  simp [hi]
theorem ext_zeroN {w s : Nat} (hw : w ≤ s) (hs : s ≤ 128) (a : BitVec w) : (extB false a s).toNat = a.toNat := by
  have e : extB false a s = a.setWidth s := by
    apply BitVec.eq_of_getLsbD_eq
    intro i hi
    rw [extB_bit (by omega) hs, BitVec.getLsbD_setWidth]
    by_cases h : i < w
    · simp [hi, h]
    · have : a.getLsbD i = false := BitVec.getLsbD_of_ge a i (by omega)
      simp [hi, h, this]
  rw [e, BitVec.toNat_setWidth, Nat.mod_eq_of_lt]
  exact Nat.lt_of_lt_of_le a.isLt (Nat.pow_le_pow_right (by decide) hw)
theorem ext_ult {w s : Nat} (hw : w ≤ s) (hs : s ≤ 128) (a b : BitVec w) : (extB false a s < extB false b s) = (a < b) := by
  rw [BitVec.lt_def, BitVec.lt_def, ext_zeroN hw hs, ext_zeroN hw hs]

theorem topN_nat {w : Nat} (h1 : 1 ≤ w) (hw : w ≤ 128) : (topN w).toNat = 2 ^ (w - 1) := by
  rw [topN, BitVec.toNat_shiftLeft, BitVec.toNat_ofNat, Nat.shiftLeft_eq]
  have : 2 ^ (w - 1) < 2 ^ 128 := Nat.pow_lt_pow_right (by decide) (by omega)
  rw [show 1 % 2 ^ 128 = 1 from by decide, Nat.one_mul, Nat.mod_eq_of_lt this]
theorem topN_bit {w i : Nat} (h1 : 1 ≤ w) (hw : w ≤ 128) : (topN w).getLsbD i = decide (i = w - 1) := by
  rw [topN, one_shl_bit]
  by_cases h : i = w - 1
  · subst h; simp; omega
  · have : ¬ w - 1 = i := fun e => h e.symm
    simp [h, this]
theorem xor_add (x y : W128) (h : x &&& y = 0#128) : x ^^^ y = x + y := by
  have e := and_add_or x y
  rw [h, BitVec.zero_add] at e
  rw [← e]
  apply BitVec.eq_of_getLsbD_eq
  intro i hi
  have := congrArg (fun z => z.getLsbD i) h
  simp only [BitVec.getLsbD_and, BitVec.getLsbD_zero] at this
  rw [BitVec.getLsbD_xor, BitVec.getLsbD_or]
  cases hx : x.getLsbD i <;> cases hy : y.getLsbD i <;> simp [hx, hy] at this ⊢
/-- A word with its highest bit turned, as a number. -/
theorem topx {w : Nat} (h1 : 1 ≤ w) (hw : w ≤ 128) (a : BitVec w) : (E a ^^^ topN w).toNat + (if a.msb = true then 2 ^ (w - 1) else 0) = a.toNat + (if a.msb = true then 0 else 2 ^ (w - 1)) := by
  have hm : a.msb = (E a).getLsbD (w - 1) := by rw [E_bit hw, BitVec.msb_eq_getLsbD_last]
  have ht := topN_nat h1 hw
  have hp : 2 ^ (w - 1) + 2 ^ (w - 1) ≤ 2 ^ 128 := by
    have := pow_half h1
    have h2 : 2 ^ w ≤ 2 ^ 128 := Nat.pow_le_pow_right (by decide) hw
    omega
  have hph := pow_half h1
  have hEa := E_nat hw a
  cases h : a.msb with
  | false =>
    have hlt : a.toNat < 2 ^ (w - 1) := by
      have := BitVec.msb_eq_decide a
      rw [h] at this
      have : ¬ 2 ^ (w - 1) ≤ a.toNat := by simpa using this.symm
      omega
    rw [xor_add, BitVec.toNat_add, ht, hEa]
    · simp; omega
    · apply BitVec.eq_of_getLsbD_eq
      intro i hi
      rw [BitVec.getLsbD_and, topN_bit h1 hw]
      by_cases hi2 : i = w - 1
      · subst hi2; rw [← hm, h]; simp
      · simp [hi2]
  | true =>
    have e : E a = (E a ^^^ topN w) ^^^ topN w := by rw [BitVec.xor_assoc, BitVec.xor_self, BitVec.xor_zero]
    have h0 : (E a ^^^ topN w) &&& topN w = 0#128 := by
      apply BitVec.eq_of_getLsbD_eq
      intro i hi
      rw [BitVec.getLsbD_and, BitVec.getLsbD_xor, topN_bit h1 hw]
      by_cases hi2 : i = w - 1
      · subst hi2; rw [← hm, h]; simp
      · simp [hi2]
    rw [xor_add _ _ h0] at e
    have hlt : (E a ^^^ topN w).toNat < 2 ^ (w - 1) := by
      have hle : ∀ i, w - 1 ≤ i → (E a ^^^ topN w).getLsbD i = false := fun i hi => by
        rw [BitVec.getLsbD_xor, topN_bit h1 hw]
        by_cases hi2 : i = w - 1
        · subst hi2; rw [← hm, h]; simp
        · rw [E_bit hw, BitVec.getLsbD_of_ge a i (by omega)]; simp [hi2]
      apply Nat.lt_pow_two_of_testBit
      intro i hi
      exact hle i hi
    have e2 := congrArg BitVec.toNat e
    rw [BitVec.toNat_add, ht, hEa, Nat.mod_eq_of_lt (by omega)] at e2
    rw [if_pos rfl, if_pos rfl]; omega
theorem ext_slt {w s : Nat} (h1 : 1 ≤ w) (hw : w ≤ s) (hs : s ≤ 128) (a b : BitVec w) : cmpF 33 (extB true a s) (extB true b s) = cmpF 33 a b := by
  have key : ∀ x : BitVec w, (E (extB true x s) ^^^ topN s).toNat + 2 ^ (w - 1) = (E x ^^^ topN w).toNat + 2 ^ (s - 1) := fun x => by
    have t1 := topx h1 (by omega) x
    have t2 := topx (w := s) (by omega) hs (extB true x s)
    have hm : (extB true x s).msb = x.msb := by rw [ext_msb h1 hw hs]; simp
    have hn : (extB true x s).toNat = x.toNat + (if x.msb = true then 2 ^ s - 2 ^ w else 0) := by
      rw [ext_sign hw hs, BitVec.toNat_signExtend, BitVec.toNat_setWidth, Nat.mod_eq_of_lt]
      exact Nat.lt_of_lt_of_le x.isLt (Nat.pow_le_pow_right (by decide) hw)
    have p1 := pow_half h1
    have p2 := pow_half (w := s) (by omega)
    have p3 : 2 ^ w ≤ 2 ^ s := Nat.pow_le_pow_right (by decide) hw
    have hx := x.isLt
    rw [hm, hn] at t2
    cases h : x.msb <;> simp only [h, Bool.false_eq_true, if_true, if_false] at t1 t2 <;> omega
  have ka := key a
  have kb := key b
  unfold cmpF cmpN
  rw [if_pos (by omega), if_pos (by omega), if_pos (by omega), if_pos (by omega), decide_eq_decide, BitVec.lt_def, BitVec.lt_def]
  omega

theorem law_ext {w n s : Nat} (h1 : 1 ≤ w) (hs : s = w + n) (hm : s ≤ 128) {a : BitVec w} {sg : Bool} {H : AHeap} : R f_bv_Extend [.agg [.int .i64 (w : Nat), u (lo (E a)), u (hi (E a))], .int .i64 n, .bool sg] H = some (.tup [.agg [.int .i64 (s : Nat), u (lo (E (extB sg a s))), u (hi (E (extB sg a s)))], .int .i64 0], H) := (extend_run h1 hs hm (a := a) (sg := sg) (H := H)).run

set_option maxHeartbeats 16000000 in
theorem ext_loop {w n s : Nat} (h1 : 1 ≤ w) (hs : s = w + n) (hm : s ≤ 128) {a b : BitVec w} {o13 o14 : Nat} {e : Env} {H : AHeap} {r : Rn} (hL : loopL Go.Proofs.Try.prog KT R l_plaitlaw1_BvExtends_0 e H = r)
    (l13 : o13 < H.size) (l14 : o14 < H.size) (b13 : H.obj o13 = .cells [.int .i64 (w : Nat), u (lo (E a)), u (hi (E a))]) (b14 : H.obj o14 = .cells [.int .i64 (w : Nat), u (lo (E b)), u (hi (E b))]) (e1 : e 1 = some (.int .i64 n)) (e13 : e 13 = some (.ptr o13 0)) (e14 : e 14 = some (.ptr o14 0)) (e15 : e 15 = some (.int .i64 0)) :
    ∃ y e' H', r = some (y, e', H') ∧ (y = .exit 0 ∧ Keeps H H') ∧ ∀ t, t ∉ defs l_plaitlaw1_BvExtends_0 → e' t = e t := by
  have hw : w ≤ 128 := by omega
  refine loop_count l_plaitlaw1_BvExtends_0.eq_1 hL 2 (fun i e1 H1 => e1 15 = some (.int .i64 (i : Int)) ∧ Keeps H H1) _ 0 (by omega) ⟨e15, Keeps.refl _⟩ ?_ ?_
  · rintro i f H1 hf - hi' ⟨f15, k⟩
    have w1 : IntKind.i64.wrap ((w : Int) - 1) = ((w - 1 : Nat) : Int) := by rw [i64w (by omega) (by omega)]; omega
    have m13 := (k.obj _ l13).trans b13
    have m14 := (k.obj _ l14).trans b14
    have n13 : ∀ j, ¬ o13 = H1.size + j := fun j => by have := k.lt l13; omega
    have n14 : ∀ j, ¬ o14 = H1.size + j := fun j => by have := k.lt l14; omega
    have n13' : ¬ o13 = H1.size := Nat.ne_of_lt (k.lt l13)
    have n14' : ¬ o14 = H1.size := Nat.ne_of_lt (k.lt l14)
    have n13'' : ¬ o13 = H1.size + 1 + 1 := by have := k.lt l13; omega
    have n14'' : ¬ o14 = H1.size + 1 + 1 := by have := k.lt l14; omega
    have hsz := k.size
    have s1 : 1 ≤ s := by omega
    have hkk : ∀ X1 X2 X3 X4 X5 X6, Keeps H ((((((H1.new X1).set H1.size X2).new X3).set (H1.size + 1) X4).new X5).set (H1.size + 1 + 1) X6) := fun X1 X2 X3 X4 X5 X6 => (((((k.new' X1).set (by omega) X2).new' X3).set (by omega) X4).new' X5).set (by omega) X6
    have hnz : decide (s = w) = decide ((n : Int) = 0) := by rw [decide_eq_decide]; omega
    have hnz' : decide (s = w) = decide (n = 0) := by rw [decide_eq_decide]; omega
    rcases (by omega : i = 0 ∨ i = 1) with rfl | rfl
    · have x1 := fun H => law_ext h1 hs hm (a := a) (sg := false) (H := H)
      have x2 := fun H => law_ext h1 hs hm (a := b) (sg := false) (H := H)
      have x3 := fun H => low_ex (w := s) (v := w - 1) (s := w) (by omega) hm (by omega) (by omega) (a := extB false a s) (H := H)
      rw [ext_low (by omega) hm] at x3
      have x4 := ext_ult (s := s) (by omega) hm a b
      have x5 := ext_msb (s := s) h1 (by omega) hm false a
      rw [Bool.false_or, hnz'] at x5
      generalize extB false a s = xa at *
      generalize extB false b s = xb at *
      by_cases hn : n = 0
      · have hn1 : ((n : Int) = 0) = True := by simp [hn]
        have hn2 : (n = 0) = True := by simp [hn]
        cases ha : a.msb <;> simp (maxDischargeDepth := 60) (maxSteps := 2000000) [hf, e1, e13, e14, f15, m13, m14, n13, n14, n13', n14', n13'', n14'', h1, hw, s1, hm, x1, x2, x3, x4, x5, w1, ha, hn2, hkk]
      · have hn' : ¬ (n : Int) = 0 := by omega
        cases ha : a.msb <;> simp (maxDischargeDepth := 60) (maxSteps := 2000000) [hf, e1, e13, e14, f15, m13, m14, n13, n14, n13', n14', n13'', n14'', h1, hw, s1, hm, x1, x2, x3, x4, x5, w1, ha, hn, hkk]
    · have x1 := fun H => law_ext h1 hs hm (a := a) (sg := true) (H := H)
      have x2 := fun H => law_ext h1 hs hm (a := b) (sg := true) (H := H)
      have x3 := fun H => low_ex (w := s) (v := w - 1) (s := w) (by omega) hm (by omega) (by omega) (a := extB true a s) (H := H)
      rw [ext_low (by omega) hm] at x3
      have x4 := ext_slt (s := s) h1 (by omega) hm a b
      have x5 := ext_msb (s := s) h1 (by omega) hm true a
      rw [Bool.true_or, Bool.and_true] at x5
      have x6 := fun H => (do_run s1 hm (n := 33) (a := extB true a s) (b := extB true b s) (H := H)).run
      have x7 := fun H => (do_run h1 hw (n := 33) (a := a) (b := b) (H := H)).run
      rw [two_cmp (by omega) (by omega), BB_eq] at x6 x7
      rw [x4] at x6
      simp only [B, Bt] at x6 x7
      generalize extB true a s = xa at *
      generalize extB true b s = xb at *
      cases ha : a.msb <;> simp (maxDischargeDepth := 60) (maxSteps := 2000000) [hf, e1, e13, e14, f15, m13, m14, n13, n14, n13', n14', n13'', n14'', h1, hw, s1, hm, x1, x2, x3, x5, x6, x7, w1, ha, hkk]
  · rintro f H1 hf ⟨f15, k⟩
    simp [f15]
    exact k

set_option maxHeartbeats 8000000 in
theorem extends_run {w v : Int} (h0 : -9223372036854775808 ≤ w) (h1 : w ≤ 9223372036854775807) {x1 x2 x3 x4 : BitVec 64} {H : AHeap} : R f_plaitlaw1_BvExtends [.int .i64 w, .int .i64 v, u x1, u x2, u x3, u x4] H = some (.bool true, H) := by
  obtain ⟨g1, g2⟩ := wid_le w
  obtain ⟨a, ha⟩ := word_of h0 h1 x1 x2
  obtain ⟨b, hb⟩ := word_of h0 h1 x3 x4
  generalize wid w = m at *
  have w2 : IntKind.i64.wrap (128 - (m : Int)) = 128 - (m : Int) := i64w (by omega) (by omega)
  rw [e_plaitlaw1_BvExtends]
  by_cases c1 : v < 0
  · simp (maxDischargeDepth := 40) [c_plaitlaw1_BvExtends, ha, hb, c1]
  by_cases c2 : 128 - (m : Int) < v
  · simp (maxDischargeDepth := 40) [c_plaitlaw1_BvExtends, ha, hb, c1, c2, w2]
  obtain ⟨n, rfl⟩ : ∃ n : Nat, v = (n : Int) := ⟨v.toNat, by omega⟩
  simp (maxDischargeDepth := 40) [c_plaitlaw1_BvExtends, ha, hb, c1, c2, w2]
  generalize hL : loopL _ _ _ _ _ _ = q
  obtain ⟨y, e1, H1, rfl, ⟨rfl, k⟩, fr⟩ := ext_loop (s := m + n) g1 rfl (by omega) (a := a) (b := b) (o13 := H.size) (o14 := H.size + 1) hL (by simp) (by simp) (by simp) (by simp) (by simp) (by simp) (by simp) (by simp)
  have hK : Keeps H H1 := Keeps.trans (by simp (maxDischargeDepth := 40)) k
  simp [hK]
theorem BvExtends_law {a0 a1 a2 a3 a4 a5 : AV} (y0 : TV Go.Proofs.Try.prog 8 3 a0) (y1 : TV Go.Proofs.Try.prog 8 3 a1) (y2 : TV Go.Proofs.Try.prog 8 22 a2) (y3 : TV Go.Proofs.Try.prog 8 22 a3) (y4 : TV Go.Proofs.Try.prog 8 22 a4) (y5 : TV Go.Proofs.Try.prog 8 22 a5) : ∃ H', R f_plaitlaw1_BvExtends [a0, a1, a2, a3, a4, a5] H0 = some (.bool true, H') := by
  obtain ⟨n0, rfl, p0, q0⟩ := tv_int3 y0
  obtain ⟨n1, rfl, p1, q1⟩ := tv_int3 y1
  obtain ⟨x2, rfl⟩ := tv_u22 y2
  obtain ⟨x3, rfl⟩ := tv_u22 y3
  obtain ⟨x4, rfl⟩ := tv_u22 y4
  obtain ⟨x5, rfl⟩ := tv_u22 y5
  exact ⟨_, extends_run p0 q0⟩
end Go.Proofs.Ytfjbdlfnoecejaa

/- The law BvShifts. -/
import Derived.Test.YtfjbdlfnoecejaaBLD
import Derived.Test.YtfjbdlfnoecejaaBLM
namespace Go.Proofs.Ytfjbdlfnoecejaa
set_option maxRecDepth 100000

def opS {w : Nat} (n : Int) (a : BitVec w) (k : Nat) : BitVec w := if n = 26 then a <<< k else if n = 27 then a >>> k else a.sshiftRight k
theorem two_opS {w : Nat} (hw : w ≤ 128) {n : Int} (h0 : 26 ≤ n) (h1 : n ≤ 28) (a b : BitVec w) : twoF n a b = B (opS n a (shN b)) := by
  unfold opS
  by_cases c : n = 26
  · subst c; exact two_shl hw a b
  by_cases c : n = 27
  · subst c; exact two_lshr hw a b
  · have : n = 28 := by omega
    subst this; exact two_ashr hw a b
theorem opS_far {w : Nat} (n : Int) (a : BitVec w) {k : Nat} (hk : w ≤ k) : opS n a k = if n = 26 then 0#w else if n = 27 then 0#w else if a.msb = true then BitVec.allOnes w else 0#w := by
  unfold opS
  split
  · exact BitVec.shiftLeft_eq_zero hk
  split
  · exact BitVec.ushiftRight_eq_zero hk
  · apply BitVec.eq_of_getLsbD_eq
    intro i hi
    rw [BitVec.getLsbD_sshiftRight]
    have c1 : ¬ k + i < w := by omega
    have c2 : ¬ w ≤ i := by omega
    cases hm : a.msb <;> simp [c1, c2, hi]
theorem opS_add {w : Nat} (n : Int) (a : BitVec w) (i j : Nat) : opS n (opS n a i) j = opS n a (i + j) := by
  unfold opS
  split
  · rw [BitVec.shiftLeft_add]
  split
  · rw [BitVec.shiftRight_add]
  · rw [BitVec.sshiftRight_add]
theorem opS_min {w : Nat} (n : Int) (a : BitVec w) (i j : Nat) : opS n (opS n a i) j = opS n a (min (i + j) w) := by
  rw [opS_add]
  by_cases h : i + j ≤ w
  · rw [Nat.min_eq_left h]
  · rw [Nat.min_eq_right (by omega), opS_far n a (by omega), opS_far n a (Nat.le_refl _)]
theorem two_pow_w {w : Nat} (h8 : 8 ≤ w) (hw : w ≤ 128) {k : Nat} (hk : k ≤ w) : k < 2 ^ w := by
  have := Nat.pow_le_pow_right (show 0 < 2 by decide) h8
  have e : (2 : Nat) ^ 8 = 256 := by decide
  omega
theorem shN_ones {w : Nat} (h8 : 8 ≤ w) (hw : w ≤ 128) : shN (BitVec.allOnes w) = w := by
  have := two_pow_w h8 hw (Nat.le_refl w)
  unfold shN
  rw [BitVec.toNat_allOnes, if_neg (by omega)]
theorem rot_or {w k : Nat} (hw : w ≤ 128) (hk : k < w) (a : BitVec w) : rotB a k = a <<< k ||| a >>> (w - k) := by
  apply BitVec.eq_of_getLsbD_eq
  intro i hi
  rw [rotB_bit hw a hk hi, BitVec.getLsbD_or, BitVec.getLsbD_shiftLeft, BitVec.getLsbD_ushiftRight]
  by_cases h : k ≤ i
  · have c1 : ¬ i < k := by omega
    have h2 : a.getLsbD (w - k + i) = false := BitVec.getLsbD_of_ge a _ (by omega)
    simp [hi, h, c1, h2]
  · have c1 : i < k := by omega
    have h2 : w - k + i = i + w - k := by omega
    simp [h, c1, h2]

set_option maxHeartbeats 16000000 in
theorem shf_loop {w m n : Nat} (h8 : 8 ≤ w) (hw : w ≤ 128) (hm : m ≤ w) (hn : n ≤ w) {a : BitVec w} {o11 o12 o13 : Nat} {e : Env} {H : AHeap} {r : Rn} (hL : loopL Go.Proofs.Try.prog KT R l_plaitlaw1_BvShifts_0 e H = r)
    (l11 : o11 < H.size) (l12 : o12 < H.size) (l13 : o13 < H.size) (b11 : H.obj o11 = .cells [.int .i64 (w : Nat), u (lo (E a)), u (hi (E a))]) (b12 : H.obj o12 = .cells [.int .i64 w, u 0#64, u 0#64]) (b13 : H.obj o13 = .cells [.int .i64 (w : Nat), u (lo (E (BitVec.allOnes w))), u (hi (E (BitVec.allOnes w)))])
    (e1 : e 1 = some (.int .i64 m)) (e2 : e 2 = some (.int .i64 n)) (e11 : e 11 = some (.ptr o11 0)) (e12 : e 12 = some (.ptr o12 0)) (e13 : e 13 = some (.ptr o13 0)) (e14 : e 14 = some (.int .i64 26)) :
    ∃ y e' H', r = some (y, e', H') ∧ (y = .exit 0 ∧ Keeps H H') ∧ ∀ t, t ∉ defs l_plaitlaw1_BvShifts_0 → e' t = e t := by
  have h1 : 1 ≤ w := by omega
  refine loop_count l_plaitlaw1_BvShifts_0.eq_1 hL 3 (fun i e1 H1 => e1 14 = some (.int .i64 (26 + (i : Int))) ∧ Keeps H H1) _ 0 (by omega) ⟨e14, Keeps.refl _⟩ ?_ ?_
  · rintro i f H1 hf - hi' ⟨f14, k⟩
    have hw1 : IntKind.i64.wrap (26 + (i : Int) + 1) = 26 + ((i + 1 : Nat) : Int) := by rw [i64w (by omega) (by omega)]; omega
    have hw2 : IntKind.i64.wrap ((m : Int) + (n : Int)) = (m : Int) + (n : Int) := i64w (by omega) (by omega)
    have hmin : min ((m : Int) + (n : Int)) (w : Int) = ((min (m + n) w : Nat) : Int) := by omega
    have m11 := (k.obj _ l11).trans b11
    have m12 := (k.obj _ l12).trans b12
    have m13 := (k.obj _ l13).trans b13
    have n11 : ¬ o11 = H1.size := Nat.ne_of_lt (k.lt l11)
    have n12 : ¬ o12 = H1.size := Nat.ne_of_lt (k.lt l12)
    have n13 : ¬ o13 = H1.size := Nat.ne_of_lt (k.lt l13)
    have n11' : ¬ o11 = H1.size + 1 := by have := k.lt l11; omega
    have n12' : ¬ o12 = H1.size + 1 := by have := k.lt l12; omega
    have n13' : ¬ o13 = H1.size + 1 := by have := k.lt l13; omega
    have n11'' : ¬ o11 = H1.size + 1 + 1 := by have := k.lt l11; omega
    have n12'' : ¬ o12 = H1.size + 1 + 1 := by have := k.lt l12; omega
    have n13'' : ¬ o13 = H1.size + 1 + 1 := by have := k.lt l13; omega
    have hsz := k.size
    have hk1 : ∀ X1 X2 X3 X4 X5 X6, Keeps H ((((((H1.new X1).set H1.size X2).new X3).set (H1.size + 1) X4).new X5).set (H1.size + 1 + 1) X6) := fun X1 X2 X3 X4 X5 X6 => (((((k.new' X1).set (by omega) X2).new' X3).set (by omega) X4).new' X5).set (by omega) X6
    have hk2 : ∀ X1 X2 X3 X4 X7 X5 X6, Keeps H (((((((H1.new X1).set H1.size X2).new X3).set (H1.size + 1) X4).set (H1.size + 1) X7).new X5).set (H1.size + 1 + 1) X6) := fun X1 X2 X3 X4 X7 X5 X6 => ((((((k.new' X1).set (by omega) X2).new' X3).set (by omega) X4).set (by omega) X7).new' X5).set (by omega) X6
    have c1 : 26 + (i : Int) ≤ 28 := by omega
    have p1 := fun H => (small_run h1 hw (n := m) (by omega) (H := H)).run
    have p2 := fun H => (small_run h1 hw (n := n) (by omega) (H := H)).run
    have p3 := fun H => (small_run h1 hw (n := min (m + n) w) (by omega) (H := H)).run
    have p4 := fun H => (small_run h1 hw (n := w) (by omega) (H := H)).run
    have q1 := fun H => (do_run h1 hw (n := 26 + (i : Int)) (a := a) (b := BitVec.ofNat w m) (H := H)).run
    have q2 := fun H => (do_run h1 hw (n := 26 + (i : Int)) (a := opS (26 + (i : Int)) a m) (b := BitVec.ofNat w n) (H := H)).run
    have q3 := fun H => (do_run h1 hw (n := 26 + (i : Int)) (a := a) (b := BitVec.ofNat w (min (m + n) w)) (H := H)).run
    have q4 := fun H => (do_run h1 hw (n := 26 + (i : Int)) (a := a) (b := BitVec.ofNat w w) (H := H)).run
    have q5 := fun H => (do_run h1 hw (n := 26 + (i : Int)) (a := a) (b := BitVec.allOnes w) (H := H)).run
    rw [two_opS hw (by omega) (by omega), shN_small (two_pow_w h8 hw hm), Nat.min_eq_left hm] at q1
    rw [two_opS hw (by omega) (by omega), shN_small (two_pow_w h8 hw hn), Nat.min_eq_left hn, opS_min] at q2
    rw [two_opS hw (by omega) (by omega), shN_small (two_pow_w h8 hw (Nat.min_le_right _ _)), Nat.min_eq_left (Nat.min_le_right _ _)] at q3
    rw [two_opS hw (by omega) (by omega), shN_small (two_pow_w h8 hw (Nat.le_refl w)), Nat.min_self, opS_far _ _ (Nat.le_refl _)] at q4
    rw [two_opS hw (by omega) (by omega), shN_ones h8 hw, opS_far _ _ (Nat.le_refl _)] at q5
    simp only [B, Bt] at p1 p2 p3 p4 q1 q2 q3 q4 q5
    generalize BitVec.ofNat w m = b1 at *
    generalize BitVec.ofNat w n = b2 at *
    generalize BitVec.ofNat w (min (m + n) w) = b3 at *
    generalize BitVec.ofNat w w = b4 at *
    generalize opS (26 + (i : Int)) a m = a1 at *
    generalize opS (26 + (i : Int)) a (min (m + n) w) = a2 at *
    generalize hM : ((min (m + n) w : Nat) : Int) = M at *
    have z1 : lo (E (0#w)) = 0#64 := by rw [E_zero, lo_zero]
    have z2 : hi (E (0#w)) = 0#64 := by rw [E_zero, hi_zero]
    rcases (by omega : i = 0 ∨ i = 1 ∨ i = 2) with rfl | rfl | rfl
    · simp only [show 26 + ((0 : Nat) : Int) = 26 from rfl, if_true, z1, z2] at q1 q2 q3 q4 q5 f14
      simp (maxDischargeDepth := 60) (maxSteps := 2000000) [hf, e1, e2, e11, e12, e13, f14, m11, m12, m13, n11, n12, n13, n11', n12', n13', n11'', n12'', n13'', p1, p2, p3, p4, q1, q2, q3, q4, q5, hw2, hmin, hk1]
    · simp only [show 26 + ((1 : Nat) : Int) = 27 from rfl, show ¬ (27 : Int) = 26 from by decide, if_false, if_true, z1, z2] at q1 q2 q3 q4 q5 f14
      simp (maxDischargeDepth := 60) (maxSteps := 2000000) [hf, e1, e2, e11, e12, e13, f14, m11, m12, m13, n11, n12, n13, n11', n12', n13', n11'', n12'', n13'', p1, p2, p3, p4, q1, q2, q3, q4, q5, hw2, hmin, hk1]
    · cases ha : a.msb
      · simp only [show 26 + ((2 : Nat) : Int) = 28 from rfl, show ¬ (28 : Int) = 26 from by decide, show ¬ (28 : Int) = 27 from by decide, ha, Bool.false_eq_true, if_false, if_true, z1, z2] at q1 q2 q3 q4 q5 f14
        simp (maxDischargeDepth := 60) (maxSteps := 2000000) [hf, e1, e2, e11, e12, e13, f14, m11, m12, m13, n11, n12, n13, n11', n12', n13', n11'', n12'', n13'', h1, hw, ha, p1, p2, p3, p4, q1, q2, q3, q4, q5, hw2, hmin, hk1]
      · simp only [show 26 + ((2 : Nat) : Int) = 28 from rfl, show ¬ (28 : Int) = 26 from by decide, show ¬ (28 : Int) = 27 from by decide, ha, if_false, if_true] at q1 q2 q3 q4 q5 f14
        simp (maxDischargeDepth := 60) (maxSteps := 2000000) [hf, e1, e2, e11, e12, e13, f14, m11, m12, m13, n11, n12, n13, n11', n12', n13', n11'', n12'', n13'', h1, hw, ha, p1, p2, p3, p4, q1, q2, q3, q4, q5, hw2, hmin, hk2]
  · rintro f H1 hf ⟨f14, k⟩
    simp [hf, f14]
    exact k

set_option maxHeartbeats 8000000 in
theorem shifts_run {w m n : Int} (h0 : -9223372036854775808 ≤ w) (h1 : w ≤ 9223372036854775807) {x1 x2 : BitVec 64} {H : AHeap} : R f_plaitlaw1_BvShifts [.int .i64 w, .int .i64 m, .int .i64 n, u x1, u x2] H = some (.bool true, H) := by
  obtain ⟨g1, g2⟩ := wid_le w
  obtain ⟨a, ha⟩ := word_of h0 h1 x1 x2
  generalize wid w = v at *
  rw [e_plaitlaw1_BvShifts]
  by_cases c1 : m < 0
  · simp (maxDischargeDepth := 40) [c_plaitlaw1_BvShifts, ha, c1]
  by_cases c2 : n < 0
  · simp (maxDischargeDepth := 40) [c_plaitlaw1_BvShifts, ha, c1, c2]
  by_cases c3 : v < 8
  · have c3' : (v : Int) < 8 := by omega
    simp (maxDischargeDepth := 40) [c_plaitlaw1_BvShifts, ha, c1, c2, c3, c3']
  obtain ⟨i, rfl⟩ : ∃ i : Nat, m = (i : Int) := ⟨m.toNat, by omega⟩
  obtain ⟨j, rfl⟩ : ∃ j : Nat, n = (j : Int) := ⟨n.toNat, by omega⟩
  have c3' : ¬ (v : Int) < 8 := by omega
  have w1 : IntKind.i64.wrap ((v : Int) + 1) = (v : Int) + 1 := i64w (by omega) (by omega)
  have n0 : ¬ (v : Int) + 1 = 0 := by omega
  obtain ⟨p, hp, tp⟩ : ∃ p : Nat, p ≤ v ∧ (i : Int).tmod ((v : Int) + 1) = (p : Int) := ⟨i % (v + 1), by have := Nat.mod_lt i (show v + 1 > 0 by omega); omega, by rw [Int.tmod_eq_emod_of_nonneg (by omega)]; rfl⟩
  obtain ⟨q, hq, tq⟩ : ∃ q : Nat, q ≤ v ∧ (j : Int).tmod ((v : Int) + 1) = (q : Int) := ⟨j % (v + 1), by have := Nat.mod_lt j (show v + 1 > 0 by omega); omega, by rw [Int.tmod_eq_emod_of_nonneg (by omega)]; rfl⟩
  have n1 := fun H => (lawone_run g1 g2 (n := 10) (a := 0#v) (H := H)).run
  rw [show oneF 10 (0#v) = B (BitVec.allOnes v) from by simp [oneF]] at n1
  simp only [B, Bt, E_zero, lo_zero, hi_zero] at n1
  simp (maxDischargeDepth := 40) [c_plaitlaw1_BvShifts, ha, c3, c3', w1, n0, tp, tq, n1]
  generalize hL : loopL _ _ _ _ _ _ = r
  obtain ⟨y, e1, H1, rfl, ⟨rfl, k⟩, fr⟩ := shf_loop (by omega) g2 hp hq (a := a) (o11 := H.size) (o12 := H.size + 1) (o13 := H.size + 1 + 1) hL (by simp) (by simp) (by simp) (by simp) (by simp) (by simp) (by simp) (by simp) (by simp) (by simp) (by simp) (by simp)
  have hK : Keeps H H1 := Keeps.trans (by simp (maxDischargeDepth := 40)) k
  have b11 : H1.obj H.size = .cells [.int .i64 v, u (lo (E a)), u (hi (E a))] := by rw [k.obj _ (by simp)]; simp
  have l11 : H.size < H1.size := k.lt (by simp)
  have hle := hK.size
  have v0 : ¬ (v : Int) = 0 := by omega
  have v1 : ¬ v = 0 := by omega
  obtain ⟨t, ht, tt⟩ : ∃ t : Nat, t = p % v ∧ (p : Int).tmod (v : Int) = (t : Int) := ⟨p % v, rfl, by rw [Int.tmod_eq_emod_of_nonneg (by omega)]; rfl⟩
  have htv : t < v := by rw [ht]; exact Nat.mod_lt _ (by omega)
  have w2 : IntKind.i64.wrap ((v : Int) - (t : Int)) = ((v - t : Nat) : Int) := by rw [i64w (by omega) (by omega)]; omega
  have r1 := fun H => (rotate_left (w := v) (n := t) (k := t) (d := v - t) g1 g2 (by rw [Nat.mod_eq_of_lt htv]) rfl (a := a) (H := H)).run
  rw [show (E a <<< t ||| E a >>> (v - t)).setWidth v = rotB a t from rfl, rot_or g2 htv] at r1
  have s1 := fun H => (small_run g1 g2 (n := t) (by omega) (H := H)).run
  have s2 := fun H => (small_run g1 g2 (n := v - t) (by omega) (H := H)).run
  have q1 := fun H => (do_run g1 g2 (n := 26) (a := a) (b := BitVec.ofNat v t) (H := H)).run
  have q2 := fun H => (do_run g1 g2 (n := 27) (a := a) (b := BitVec.ofNat v (v - t)) (H := H)).run
  rw [two_shl g2, shN_small (two_pow_w (by omega) g2 (by omega)), Nat.min_eq_left (by omega)] at q1
  rw [two_lshr g2, shN_small (two_pow_w (by omega) g2 (by omega)), Nat.min_eq_left (by omega)] at q2
  simp only [B, Bt] at r1 s1 s2 q1 q2
  generalize BitVec.ofNat v t = bt at *
  generalize BitVec.ofNat v (v - t) = bd at *
  generalize hvt : ((v - t : Nat) : Int) = vt at *
  simp (maxDischargeDepth := 40) [fr, b11, l11, hK, hle, g1, g2, v0, v1, tt, w2, r1, s1, s2, q1, q2]
theorem BvShifts_law {a0 a1 a2 a3 a4 : AV} (y0 : TV Go.Proofs.Try.prog 8 3 a0) (y1 : TV Go.Proofs.Try.prog 8 3 a1) (y2 : TV Go.Proofs.Try.prog 8 3 a2) (y3 : TV Go.Proofs.Try.prog 8 22 a3) (y4 : TV Go.Proofs.Try.prog 8 22 a4) : ∃ H', R f_plaitlaw1_BvShifts [a0, a1, a2, a3, a4] H0 = some (.bool true, H') := by
  obtain ⟨n0, rfl, p0, q0⟩ := tv_int3 y0
  obtain ⟨n1, rfl, p1, q1⟩ := tv_int3 y1
  obtain ⟨n2, rfl, p2, q2⟩ := tv_int3 y2
  obtain ⟨x3, rfl⟩ := tv_u22 y3
  obtain ⟨x4, rfl⟩ := tv_u22 y4
  exact ⟨_, shifts_run p0 q0⟩
end Go.Proofs.Ytfjbdlfnoecejaa

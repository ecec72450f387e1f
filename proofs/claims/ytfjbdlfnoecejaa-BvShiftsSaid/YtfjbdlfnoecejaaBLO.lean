/- The law BvOrders. -/
import Derived.Test.YtfjbdlfnoecejaaBLA
import Derived.Test.YtfjbdlfnoecejaaBV4
namespace Go.Proofs.Ytfjbdlfnoecejaa
set_option maxRecDepth 100000

def bw (b : Bool) : BitVec 64 := if b = true then 1#64 else 0#64
@[simp] theorem bw_one {b : Bool} : decide (bw b = 1#64) = b := by cases b <;> decide
@[simp] theorem bw_one' {b : Bool} : (bw b = 1#64) = (b = true) := by cases b <;> simp [bw]
@[simp] theorem bw_bw {b c : Bool} : (bw b = bw c) = (b = c) := by cases b <;> cases c <;> simp [bw]
theorem BB_eq (p : Bool) : BB p = .agg [.int .i64 0, u (bw (p)), u 0#64] := by cases p <;> rfl
@[simp] theorem d_ult {w : Nat} (h1 : 1 ≤ w) (hw : w ≤ 128) {a b : BitVec w} {H : AHeap} : R f_plaitlaw1_do [.int .i64 29, .agg [.int .i64 (w : Nat), u (lo (E a)), u (hi (E a))], .agg [.int .i64 (w : Nat), u (lo (E b)), u (hi (E b))]] H = some (.agg [.int .i64 0, u (bw (decide (a < b))), u 0#64], H) := by
  have := (do_run h1 hw (n := 29) (a := a) (b := b) (H := H)).run
  rw [two_ult hw, BB_eq] at this
  exact this
@[simp] theorem d_ule {w : Nat} (h1 : 1 ≤ w) (hw : w ≤ 128) {a b : BitVec w} {H : AHeap} : R f_plaitlaw1_do [.int .i64 30, .agg [.int .i64 (w : Nat), u (lo (E a)), u (hi (E a))], .agg [.int .i64 (w : Nat), u (lo (E b)), u (hi (E b))]] H = some (.agg [.int .i64 0, u (bw (!decide (b < a))), u 0#64], H) := by
  have := (do_run h1 hw (n := 30) (a := a) (b := b) (H := H)).run
  rw [two_ule hw, BB_eq] at this
  exact this
@[simp] theorem d_ugt {w : Nat} (h1 : 1 ≤ w) (hw : w ≤ 128) {a b : BitVec w} {H : AHeap} : R f_plaitlaw1_do [.int .i64 31, .agg [.int .i64 (w : Nat), u (lo (E a)), u (hi (E a))], .agg [.int .i64 (w : Nat), u (lo (E b)), u (hi (E b))]] H = some (.agg [.int .i64 0, u (bw (decide (b < a))), u 0#64], H) := by
  have := (do_run h1 hw (n := 31) (a := a) (b := b) (H := H)).run
  rw [two_ugt hw, BB_eq] at this
  exact this
@[simp] theorem d_uge {w : Nat} (h1 : 1 ≤ w) (hw : w ≤ 128) {a b : BitVec w} {H : AHeap} : R f_plaitlaw1_do [.int .i64 32, .agg [.int .i64 (w : Nat), u (lo (E a)), u (hi (E a))], .agg [.int .i64 (w : Nat), u (lo (E b)), u (hi (E b))]] H = some (.agg [.int .i64 0, u (bw (!decide (a < b))), u 0#64], H) := by
  have := (do_run h1 hw (n := 32) (a := a) (b := b) (H := H)).run
  rw [two_uge hw, BB_eq] at this
  exact this
@[simp] theorem d_eq {w : Nat} (h1 : 1 ≤ w) (hw : w ≤ 128) {a b : BitVec w} {H : AHeap} : R f_plaitlaw1_do [.int .i64 8, .agg [.int .i64 (w : Nat), u (lo (E a)), u (hi (E a))], .agg [.int .i64 (w : Nat), u (lo (E b)), u (hi (E b))]] H = some (.agg [.int .i64 0, u (bw (decide (a = b))), u 0#64], H) := by
  have := (do_run h1 hw (n := 8) (a := a) (b := b) (H := H)).run
  rw [two_eq, BB_eq] at this
  exact this
@[simp] theorem d_comp {w : Nat} (h1 : 1 ≤ w) (hw : w ≤ 128) {a b : BitVec w} {H : AHeap} : R f_plaitlaw1_do [.int .i64 37, .agg [.int .i64 (w : Nat), u (lo (E a)), u (hi (E a))], .agg [.int .i64 (w : Nat), u (lo (E b)), u (hi (E b))]] H = some (.agg [.int .i64 1, u (bw (decide (a = b))), u 0#64], H) := by
  have := (do_run h1 hw (n := 37) (a := a) (b := b) (H := H)).run
  rw [two_comp, show B (w := 1) (if a = b then 1#1 else 0#1) = .agg [.int .i64 1, u (bw (decide (a = b))), u 0#64] from by by_cases h : a = b <;> simp [h] <;> rfl] at this
  exact this

theorem two_cmp {w : Nat} {n : Int} (h0 : 29 ≤ n) (h1 : n ≤ 36) (a b : BitVec w) : twoF n a b = BB (cmpF n a b) := by
  unfold twoF
  rw [if_neg (by omega), if_neg (by omega), if_neg (by omega), if_pos (by omega)]
theorem E_top {w : Nat} (hw : w ≤ 128) (h1 : 1 ≤ w) : E (1#w <<< (w - 1)) = topN w := by
  apply BitVec.eq_of_getLsbD_eq
  intro i hi
  rw [E_bit hw, topN, BitVec.getLsbD_shiftLeft, BitVec.getLsbD_shiftLeft, BitVec.getLsbD_one, BitVec.getLsbD_one]
  by_cases h : i = w - 1
  · have : i < w := by omega
    have h2 : 0 < w := by omega
    subst h
    simp [hi, this, h2]
  · by_cases h2 : i < w - 1
    · simp [h2]
    · have h3 : ¬ i < w := by omega
      have h4 : ¬ i - (w - 1) = 0 := by omega
      simp [h3, h4]
theorem E_xor {w : Nat} (hw : w ≤ 128) (a b : BitVec w) : E (a ^^^ b) = E a ^^^ E b := by
  apply BitVec.eq_of_getLsbD_eq
  intro i hi
  rw [E_bit hw, BitVec.getLsbD_xor, BitVec.getLsbD_xor, E_bit hw, E_bit hw]
theorem cmp_top {w : Nat} (hw : w ≤ 128) (h1 : 1 ≤ w) (a b : BitVec w) {k : Int} (h0 : 0 ≤ k) (h3 : k ≤ 3) : cmpF (33 + k) a b = cmpF (29 + k) (a ^^^ 1#w <<< (w - 1)) (b ^^^ 1#w <<< (w - 1)) := by
  unfold cmpF
  rw [if_pos (by omega), if_neg (by omega), E_xor hw, E_xor hw, E_top hw h1]
  unfold cmpN
  by_cases c0 : k = 0
  · subst c0; rfl
  by_cases c1 : k = 1
  · subst c1; rfl
  by_cases c2 : k = 2
  · subst c2; rfl
  · have : k = 3 := by omega
    subst this; rfl

set_option maxHeartbeats 4000000 in
theorem ord_loop {w : Nat} (h1 : 1 ≤ w) (hw : w ≤ 128) {a b x y : BitVec w} (hx : x = a ^^^ 1#w <<< (w - 1)) (hy : y = b ^^^ 1#w <<< (w - 1)) {o15 o16 o20 o21 : Nat} {e : Env} {H : AHeap} {r : Rn} (hL : loopL Go.Proofs.Try.prog KT R l_plaitlaw1_BvOrders_0 e H = r)
    (b15 : H.obj o15 = .cells [.int .i64 (w : Nat), u (lo (E a)), u (hi (E a))]) (b16 : H.obj o16 = .cells [.int .i64 (w : Nat), u (lo (E b)), u (hi (E b))]) (b20 : H.obj o20 = .cells [.int .i64 (w : Nat), u (lo (E x)), u (hi (E x))]) (b21 : H.obj o21 = .cells [.int .i64 (w : Nat), u (lo (E y)), u (hi (E y))])
    (e15 : e 15 = some (.ptr o15 0)) (e16 : e 16 = some (.ptr o16 0)) (e20 : e 20 = some (.ptr o20 0)) (e21 : e 21 = some (.ptr o21 0)) (e22 : e 22 = some (.int .i64 0)) :
    ∃ y e' H', r = some (y, e', H') ∧ (y = .exit 0 ∧ H' = H) ∧ ∀ t, t ∉ defs l_plaitlaw1_BvOrders_0 → e' t = e t := by
  refine loop_count l_plaitlaw1_BvOrders_0.eq_1 hL 4 (fun i e1 H1 => e1 22 = some (.int .i64 (i : Int)) ∧ H1 = H) _ 0 (by omega) ⟨e22, rfl⟩ ?_ ?_
  · rintro i f H1 hf - hi' ⟨f22, rfl⟩
    have hw1 : IntKind.i64.wrap ((i : Int) + 1) = ((i + 1 : Nat) : Int) := by rw [i64w (by omega) (by omega)]; omega
    have hw2 : IntKind.i64.wrap (33 + (i : Int)) = 33 + (i : Int) := i64w (by omega) (by omega)
    have hw3 : IntKind.i64.wrap (29 + (i : Int)) = 29 + (i : Int) := i64w (by omega) (by omega)
    have c1 : (i : Int) < 4 := by omega
    have r1 := fun H => (do_run h1 hw (n := 33 + (i : Int)) (a := a) (b := b) (H := H)).run
    have r2 := fun H => (do_run h1 hw (n := 29 + (i : Int)) (a := x) (b := y) (H := H)).run
    rw [two_cmp (by omega) (by omega), BB_eq] at r1 r2
    rw [cmp_top hw h1 a b (by omega) (by omega), ← hx, ← hy] at r1
    simp only [B, Bt] at r1 r2
    simp (maxDischargeDepth := 20) [hf, e15, e16, e20, e21, f22, b15, b16, b20, b21, c1, r1, r2, hw1, hw2, hw3]
  · rintro f H1 hf ⟨f22, rfl⟩
    simp [f22]

set_option maxHeartbeats 16000000 in
theorem orders_run {w : Int} (h0 : -9223372036854775808 ≤ w) (h1 : w ≤ 9223372036854775807) {x1 x2 x3 x4 x5 x6 : BitVec 64} {H : AHeap} : R f_plaitlaw1_BvOrders [.int .i64 w, u x1, u x2, u x3, u x4, u x5, u x6] H = some (.bool true, H) := by
  obtain ⟨g1, g2⟩ := wid_le w
  obtain ⟨a, ha⟩ := word_of h0 h1 x1 x2
  obtain ⟨b, hb⟩ := word_of h0 h1 x3 x4
  obtain ⟨c, hc⟩ := word_of h0 h1 x5 x6
  generalize wid w = v at *
  have w1 : IntKind.i64.wrap ((v : Int) - 1) = ((v - 1 : Nat) : Int) := by rw [i64w (by omega) (by omega)]; omega
  have b1 := fun H => (boolB_run (b := true) (H := H)).run
  simp only [Bt, if_true, lo_one, hi_one, show ((0 : Nat) : Int) = 0 from rfl] at b1
  have s1 := fun H => (small_run g1 g2 (n := v - 1) (by omega) (H := H)).run
  have hp : v - 1 < 2 ^ v := by have := Nat.lt_two_pow_self (n := v); omega
  have s2 := fun H => (do_run g1 g2 (n := 26) (a := 1#v) (b := BitVec.ofNat v (v - 1)) (H := H)).run
  rw [two_shl g2, shN_small hp, Nat.min_eq_left (by omega)] at s2
  simp only [B, Bt, E_one g1 g2, lo_one, hi_one] at s1 s2
  generalize BitVec.ofNat v (v - 1) = sm at *
  obtain ⟨top, ht⟩ : ∃ top, top = 1#v <<< (v - 1) := ⟨_, rfl⟩
  rw [← ht] at s2
  rw [e_plaitlaw1_BvOrders]
  simp (maxDischargeDepth := 40) (maxSteps := 1000000) [c_plaitlaw1_BvOrders, g1, g2, ha, hb, hc, b1, w1, s1, s2]
  generalize hL : loopL _ _ _ _ _ _ = q
  obtain ⟨y, e1, H1, rfl, ⟨rfl, rfl⟩, fr⟩ := ord_loop g1 g2 (a := a) (b := b) (x := a ^^^ top) (y := b ^^^ top) (by rw [ht]) (by rw [ht]) (o15 := H.size) (o16 := H.size + 1) (o20 := H.size + 1 + 1 + 1 + 1 + 1) (o21 := H.size + 1 + 1 + 1 + 1 + 1 + 1) hL (by simp) (by simp) (by simp) (by simp) (by simp) (by simp) (by simp) (by simp) (by simp)
  have tri : a < b ∨ a = b ∨ b < a := by
    rcases Nat.lt_trichotomy a.toNat b.toNat with h | h | h
    · exact .inl h
    · exact .inr (.inl (BitVec.eq_of_toNat_eq h))
    · exact .inr (.inr h)
  have tr : ¬ b < a → ¬ c < b → ¬ c < a := by
    intro p q; rw [BitVec.lt_def] at *; omega
  have as1 : a < b → ¬ b < a := by intro p; rw [BitVec.lt_def] at *; omega
  have as2 : b < a → ¬ a < b := by intro p; rw [BitVec.lt_def] at *; omega
  have ne1 : a < b → ¬ a = b := by rintro p rfl; rw [BitVec.lt_def] at p; omega
  have ne2 : b < a → ¬ a = b := by rintro p rfl; rw [BitVec.lt_def] at p; omega
  have ir : ¬ b < b := by rw [BitVec.lt_def]; omega
  rcases tri with h | h | h
  · have q1 := as1 h
    have q2 := ne1 h
    by_cases hcb : c < b
    · simp (maxDischargeDepth := 40) (maxSteps := 1000000) [fr, g1, g2, h, q1, q2, hcb]
    · have q3 := tr q1 hcb
      simp (maxDischargeDepth := 40) (maxSteps := 1000000) [fr, g1, g2, h, q1, q2, hcb, q3]
  · subst h
    by_cases hcb : c < a
    · simp (maxDischargeDepth := 40) (maxSteps := 1000000) [fr, g1, g2, ir, hcb]
    · simp (maxDischargeDepth := 40) (maxSteps := 1000000) [fr, g1, g2, ir, hcb]
  · have q1 := as2 h
    have q2 := ne2 h
    simp (maxDischargeDepth := 40) (maxSteps := 1000000) [fr, g1, g2, h, q1, q2]
theorem BvOrders_law {a0 a1 a2 a3 a4 a5 a6 : AV} (y0 : TV Go.Proofs.Try.prog 8 3 a0) (y1 : TV Go.Proofs.Try.prog 8 22 a1) (y2 : TV Go.Proofs.Try.prog 8 22 a2) (y3 : TV Go.Proofs.Try.prog 8 22 a3) (y4 : TV Go.Proofs.Try.prog 8 22 a4) (y5 : TV Go.Proofs.Try.prog 8 22 a5) (y6 : TV Go.Proofs.Try.prog 8 22 a6) : ∃ H', R f_plaitlaw1_BvOrders [a0, a1, a2, a3, a4, a5, a6] H0 = some (.bool true, H') := by
  obtain ⟨n0, rfl, p0, q0⟩ := tv_int3 y0
  obtain ⟨x1, rfl⟩ := tv_u22 y1
  obtain ⟨x2, rfl⟩ := tv_u22 y2
  obtain ⟨x3, rfl⟩ := tv_u22 y3
  obtain ⟨x4, rfl⟩ := tv_u22 y4
  obtain ⟨x5, rfl⟩ := tv_u22 y5
  obtain ⟨x6, rfl⟩ := tv_u22 y6
  exact ⟨_, orders_run p0 q0⟩
end Go.Proofs.Ytfjbdlfnoecejaa

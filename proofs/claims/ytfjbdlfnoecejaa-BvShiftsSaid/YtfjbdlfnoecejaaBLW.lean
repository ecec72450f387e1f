/- The law BvLow: low bits hang on low bits. -/
import Derived.Test.YtfjbdlfnoecejaaBLA
namespace Go.Proofs.Ytfjbdlfnoecejaa
set_option maxRecDepth 100000

/-- The operators 12 to 20 on words. -/
def opB {w : Nat} (n : Int) (a b : BitVec w) : BitVec w :=
  if n = 12 then a &&& b else if n = 13 then a ||| b else if n = 14 then a ^^^ b else if n = 15 then ~~~(a &&& b) else if n = 16 then ~~~(a ||| b) else if n = 17 then ~~~(a ^^^ b) else if n = 18 then a + b else if n = 19 then a - b else a * b
theorem two_opB {w : Nat} (hw : w ≤ 128) {n : Int} (h0 : 12 ≤ n) (h1 : n ≤ 20) (a b : BitVec w) : twoF n a b = B (opB n a b) := by
  unfold opB
  by_cases c : n = 12
  · subst c; exact two_and hw a b
  by_cases c : n = 13
  · subst c; exact two_or hw a b
  by_cases c : n = 14
  · subst c; exact two_xor hw a b
  by_cases c : n = 15
  · subst c; exact two_nand hw a b
  by_cases c : n = 16
  · subst c; exact two_nor hw a b
  by_cases c : n = 17
  · subst c; exact two_xnor hw a b
  by_cases c : n = 18
  · subst c; exact two_add hw a b
  by_cases c : n = 19
  · subst c; exact two_sub hw a b
  by_cases c : n = 20
  · subst c; exact two_mul' hw a b
  · omega
theorem cut_add {w s : Nat} (hs : s ≤ w) (x y : BitVec w) : (x + y).setWidth s = x.setWidth s + y.setWidth s := BitVec.setWidth_add x y hs
theorem cut_mul {w s : Nat} (hs : s ≤ w) (x y : BitVec w) : (x * y).setWidth s = x.setWidth s * y.setWidth s := BitVec.setWidth_mul x y hs
theorem cut_not {w s : Nat} (hs : s ≤ w) (x : BitVec w) : (~~~x).setWidth s = ~~~(x.setWidth s) := by
  apply BitVec.eq_of_getLsbD_eq
  intro i hi
  have : i < w := by omega
  simp [hi, this]
theorem cut_neg {w s : Nat} (hs : s ≤ w) (x : BitVec w) : (-x).setWidth s = -(x.setWidth s) := by
  rw [BitVec.neg_eq_not_add, BitVec.neg_eq_not_add, cut_add hs, cut_not hs]
  congr 1
  apply BitVec.eq_of_toNat_eq
  rw [BitVec.toNat_setWidth, BitVec.toNat_ofNat, BitVec.toNat_ofNat, Nat.mod_mod_of_dvd _ (Nat.pow_dvd_pow 2 hs)]
theorem cut_opB {w s : Nat} (hs : s ≤ w) (n : Int) (a b : BitVec w) : (opB n a b).setWidth s = opB n (a.setWidth s) (b.setWidth s) := by
  unfold opB
  split
  · exact BitVec.setWidth_and
  split
  · exact BitVec.setWidth_or
  split
  · exact BitVec.setWidth_xor
  split
  · rw [cut_not hs, BitVec.setWidth_and]
  split
  · rw [cut_not hs, BitVec.setWidth_or]
  split
  · rw [cut_not hs, BitVec.setWidth_xor]
  split
  · exact cut_add hs a b
  split
  · rw [BitVec.sub_eq_add_neg, BitVec.sub_eq_add_neg, cut_add hs, cut_neg hs]
  · exact cut_mul hs a b

theorem low_ex {w v s : Nat} (h1 : 1 ≤ w) (hw : w ≤ 128) (hv : v < w) (hs : s = v + 1) {a : BitVec w} {H : AHeap} : R f_bv_Extract [.agg [.int .i64 (w : Nat), u (lo (E a)), u (hi (E a))], .int .i64 v, .int .i64 0] H = some (.tup [.agg [.int .i64 (s : Nat), u (lo (E (a.setWidth s))), u (hi (E (a.setWidth s)))], .int .i64 0], H) := by
  have g := (extract_run (i := v) (j := 0) (d := v) (s := s) h1 hw (by omega) hv hs (a := a) (H := H)).run
  rw [show (E a >>> 0).setWidth s = a.setWidth s from by
    apply BitVec.eq_of_getLsbD_eq
    intro i hi
    rw [BitVec.getLsbD_setWidth, BitVec.ushiftRight_zero, E_bit hw, BitVec.getLsbD_setWidth]] at g
  exact g

set_option maxHeartbeats 4000000 in
theorem low_loop {w v s : Nat} (h1 : 1 ≤ w) (hw : w ≤ 128) (hv : v < w) (hs : s = v + 1) {a b : BitVec w} {o13 o14 o15 o17 : Nat} {e : Env} {H : AHeap} {r : Rn} (hL : loopL Go.Proofs.Try.prog KT R l_plaitlaw1_BvLow_0 e H = r)
    (l13 : o13 < H.size) (l14 : o14 < H.size) (l15 : o15 < H.size) (l17 : o17 < H.size)
    (b13 : H.obj o13 = .cells [.int .i64 (w : Nat), u (lo (E a)), u (hi (E a))]) (b14 : H.obj o14 = .cells [.int .i64 (w : Nat), u (lo (E b)), u (hi (E b))]) (b15 : H.obj o15 = .cells [.int .i64 (s : Nat), u (lo (E (a.setWidth s))), u (hi (E (a.setWidth s)))]) (b17 : H.obj o17 = .cells [.int .i64 (s : Nat), u (lo (E (b.setWidth s))), u (hi (E (b.setWidth s)))])
    (e1 : e 1 = some (.int .i64 v)) (e13 : e 13 = some (.ptr o13 0)) (e14 : e 14 = some (.ptr o14 0)) (e15 : e 15 = some (.ptr o15 0)) (e17 : e 17 = some (.ptr o17 0)) (e19 : e 19 = some (.int .i64 12)) :
    ∃ y e' H', r = some (y, e', H') ∧ (y = .exit 0 ∧ Keeps H H') ∧ ∀ t, t ∉ defs l_plaitlaw1_BvLow_0 → e' t = e t := by
  refine loop_count l_plaitlaw1_BvLow_0.eq_1 hL 9 (fun i e1 H1 => e1 19 = some (.int .i64 (12 + (i : Int))) ∧ Keeps H H1) _ 0 (by omega) ⟨e19, Keeps.refl _⟩ ?_ ?_
  · rintro i f H1 hf - hi' ⟨f19, k⟩
    have hw1 : IntKind.i64.wrap (12 + (i : Int) + 1) = 12 + ((i + 1 : Nat) : Int) := by rw [i64w (by omega) (by omega)]; omega
    have m13 := (k.obj _ l13).trans b13
    have m14 := (k.obj _ l14).trans b14
    have m15 := (k.obj _ l15).trans b15
    have m17 := (k.obj _ l17).trans b17
    have q13 : ∀ X, (H1.new X).obj o13 = H.obj o13 := fun X => by rw [new_lt (k.lt l13)]; exact k.obj _ l13
    have q15 : ∀ X, (H1.new X).obj o15 = H.obj o15 := fun X => by rw [new_lt (k.lt l15)]; exact k.obj _ l15
    have q17 : ∀ X, (H1.new X).obj o17 = H.obj o17 := fun X => by rw [new_lt (k.lt l17)]; exact k.obj _ l17
    have n13 : ¬ o13 = H1.size := Nat.ne_of_lt (k.lt l13)
    have n14 : ¬ o14 = H1.size := Nat.ne_of_lt (k.lt l14)
    have n15 : ¬ o15 = H1.size := Nat.ne_of_lt (k.lt l15)
    have n17 : ¬ o17 = H1.size := Nat.ne_of_lt (k.lt l17)
    have c1 : 12 + (i : Int) ≤ 20 := by omega
    have r1 := fun H => (do_run h1 hw (n := 12 + (i : Int)) (a := a) (b := b) (H := H)).run
    have r2 := fun H => (do_run (w := s) (by omega) (by omega) (n := 12 + (i : Int)) (a := a.setWidth s) (b := b.setWidth s) (H := H)).run
    rw [two_opB (by omega) (by omega) (by omega)] at r1 r2
    have r3 := fun H => low_ex h1 hw hv hs (a := opB (12 + (i : Int)) a b) (H := H)
    rw [cut_opB (by omega)] at r3
    simp only [B, Bt] at r1 r2 r3
    generalize hn : 12 + (i : Int) = n at *
    simp (maxDischargeDepth := 20) [hf, e1, e13, e14, e15, e17, f19, m13, m14, m15, m17, n15, n17, c1, r1, r2, r3, hw1]
    exact (k.new' _).set (by exact k.size) _
  · rintro f H1 hf ⟨f19, k⟩
    simp [f19]
    exact k

theorem neg_v {v : Int} (h0 : -9223372036854775808 ≤ v) (h1 : v < 0) : IntKind.i64.wrap (-IntKind.i64.wrap (v + 1)) = -(v + 1) := by
  rw [i64w (n := v + 1) (by omega) (by omega), i64w (by omega) (by omega)]

set_option maxHeartbeats 8000000 in
theorem low_run {w v : Int} (h0 : -9223372036854775808 ≤ w) (h1 : w ≤ 9223372036854775807) (h2 : -9223372036854775808 ≤ v) (h3 : v ≤ 9223372036854775807) {x1 x2 x3 x4 : BitVec 64} {H : AHeap} : R f_plaitlaw1_BvLow [.int .i64 w, .int .i64 v, u x1, u x2, u x3, u x4] H = some (.bool true, H) := by
  obtain ⟨g1, g2⟩ := wid_le w
  obtain ⟨a, ha⟩ := word_of h0 h1 x1 x2
  obtain ⟨b, hb⟩ := word_of h0 h1 x3 x4
  generalize wid w = n at *
  have hn0 : ¬ (n : Int) = 0 := by omega
  have hn1 : ¬ n = 0 := by omega
  have main : ∀ (q : Nat) (v' : Int), v' = (q : Int) → (∃ k : Nat, k < n ∧ v'.tmod (n : Int) = (k : Int)) := fun q v' h => ⟨q % n, Nat.mod_lt _ (by omega), by rw [h, Int.tmod_eq_emod_of_nonneg (by omega)]; rfl⟩
  rw [e_plaitlaw1_BvLow]
  by_cases hneg : v < 0
  · obtain ⟨k, hk, ht⟩ := main (-(v + 1)).toNat (-(v + 1)) (by omega)
    have hw1 := neg_v h2 hneg
    obtain ⟨s, hs⟩ : ∃ s, s = k + 1 := ⟨_, rfl⟩
    have s1 := fun H => low_ex g1 g2 hk hs (a := a) (H := H)
    have s2 := fun H => low_ex g1 g2 hk hs (a := b) (H := H)
    have s3 := fun H => low_ex g1 g2 hk hs (a := -a) (H := H)
    rw [cut_neg (by omega)] at s3
    have s4 := fun H => (lawone_run (w := s) (by omega) (by omega) (n := 11) (a := a.setWidth s) (H := H)).run
    rw [show oneF 11 (a.setWidth s) = B (-(a.setWidth s)) from rfl] at s4
    simp only [B, Bt] at s4
    simp (maxDischargeDepth := 40) (maxSteps := 1000000) [c_plaitlaw1_BvLow, ha, hb, hneg, hw1, ht, hn1, s1, s2]
    generalize hL : loopL _ _ _ _ _ _ = q
    obtain ⟨y, e1, H1, rfl, ⟨rfl, hk1⟩, fr⟩ := low_loop g1 g2 hk hs (a := a) (b := b) (o13 := H.size) (o14 := H.size + 1) (o15 := H.size + 1 + 1) (o17 := H.size + 1 + 1 + 1) hL (by simp) (by simp) (by simp) (by simp) (by simp) (by simp) (by simp) (by simp) (by simp) (by simp) (by simp) (by simp) (by simp) (by simp)
    have b13 : H1.obj H.size = .cells [.int .i64 n, u (lo (E a)), u (hi (E a))] := by rw [hk1.obj _ (by simp)]; simp
    have b15 : H1.obj (H.size + 1 + 1) = .cells [.int .i64 s, u (lo (E (a.setWidth s))), u (hi (E (a.setWidth s)))] := by rw [hk1.obj _ (by simp)]; simp
    have l13 : H.size < H1.size := hk1.lt (by simp)
    have l15 : H.size + 1 + 1 < H1.size := hk1.lt (by simp)
    have hK : Keeps H H1 := Keeps.trans (by simp (maxDischargeDepth := 40)) hk1
    have hle : H.size ≤ H1.size := hK.size
    simp (maxDischargeDepth := 40) (maxSteps := 1000000) [fr, g1, g2, b13, b15, l15, hK, hle, s3, s4]
  · obtain ⟨k, hk, ht⟩ := main v.toNat v (by omega)
    obtain ⟨s, hs⟩ : ∃ s, s = k + 1 := ⟨_, rfl⟩
    have s1 := fun H => low_ex g1 g2 hk hs (a := a) (H := H)
    have s2 := fun H => low_ex g1 g2 hk hs (a := b) (H := H)
    have s3 := fun H => low_ex g1 g2 hk hs (a := -a) (H := H)
    rw [cut_neg (by omega)] at s3
    have s4 := fun H => (lawone_run (w := s) (by omega) (by omega) (n := 11) (a := a.setWidth s) (H := H)).run
    rw [show oneF 11 (a.setWidth s) = B (-(a.setWidth s)) from rfl] at s4
    simp only [B, Bt] at s4
    simp (maxDischargeDepth := 40) (maxSteps := 1000000) [c_plaitlaw1_BvLow, ha, hb, hneg, ht, hn1, s1, s2]
    generalize hL : loopL _ _ _ _ _ _ = q
    obtain ⟨y, e1, H1, rfl, ⟨rfl, hk1⟩, fr⟩ := low_loop g1 g2 hk hs (a := a) (b := b) (o13 := H.size) (o14 := H.size + 1) (o15 := H.size + 1 + 1) (o17 := H.size + 1 + 1 + 1) hL (by simp) (by simp) (by simp) (by simp) (by simp) (by simp) (by simp) (by simp) (by simp) (by simp) (by simp) (by simp) (by simp) (by simp)
    have b13 : H1.obj H.size = .cells [.int .i64 n, u (lo (E a)), u (hi (E a))] := by rw [hk1.obj _ (by simp)]; simp
    have b15 : H1.obj (H.size + 1 + 1) = .cells [.int .i64 s, u (lo (E (a.setWidth s))), u (hi (E (a.setWidth s)))] := by rw [hk1.obj _ (by simp)]; simp
    have l13 : H.size < H1.size := hk1.lt (by simp)
    have l15 : H.size + 1 + 1 < H1.size := hk1.lt (by simp)
    have hK : Keeps H H1 := Keeps.trans (by simp (maxDischargeDepth := 40)) hk1
    have hle : H.size ≤ H1.size := hK.size
    simp (maxDischargeDepth := 40) (maxSteps := 1000000) [fr, g1, g2, b13, b15, l15, hK, hle, s3, s4]
theorem BvLow_law {a0 a1 a2 a3 a4 a5 : AV} (y0 : TV Go.Proofs.Try.prog 8 3 a0) (y1 : TV Go.Proofs.Try.prog 8 3 a1) (y2 : TV Go.Proofs.Try.prog 8 22 a2) (y3 : TV Go.Proofs.Try.prog 8 22 a3) (y4 : TV Go.Proofs.Try.prog 8 22 a4) (y5 : TV Go.Proofs.Try.prog 8 22 a5) : ∃ H', R f_plaitlaw1_BvLow [a0, a1, a2, a3, a4, a5] H0 = some (.bool true, H') := by
  obtain ⟨n0, rfl, p0, q0⟩ := tv_int3 y0
  obtain ⟨n1, rfl, p1, q1⟩ := tv_int3 y1
  obtain ⟨x2, rfl⟩ := tv_u22 y2
  obtain ⟨x3, rfl⟩ := tv_u22 y3
  obtain ⟨x4, rfl⟩ := tv_u22 y4
  obtain ⟨x5, rfl⟩ := tv_u22 y5
  exact ⟨_, low_run p0 q0 p1 q1⟩
end Go.Proofs.Ytfjbdlfnoecejaa

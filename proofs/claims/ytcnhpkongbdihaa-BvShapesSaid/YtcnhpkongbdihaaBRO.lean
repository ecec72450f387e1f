/- The law BvOps. -/
import Derived.Test.YtcnhpkongbdihaaBR8
import Derived.Test.YtcnhpkongbdihaaBR2
namespace Go.Proofs.Ytcnhpkongbdihaa
set_option maxRecDepth 100000
set_option maxHeartbeats 4000000

theorem Bt_shape (m : Nat) (x : W128) : ∃ (k : Int) (p q : BitVec 64), Bt m x = .agg [.int .i64 k, u p, u q] := ⟨_, _, _, rfl⟩
theorem twoF_shape {w : Nat} (n : Int) (a b : BitVec w) : ∃ (k : Int) (p q : BitVec 64), twoF n a b = .agg [.int .i64 k, u p, u q] := by
  unfold twoF BB B
  repeat' split
  all_goals exact Bt_shape _ _
theorem oneF_shape {w : Nat} (n : Int) (a : BitVec w) : ∃ (k : Int) (p q : BitVec 64), oneF n a = .agg [.int .i64 k, u p, u q] := by
  unfold oneF B
  repeat' split
  all_goals exact Bt_shape _ _
theorem two_same (n w w' : Int) (l h l' h' : BitVec 64) : ∃ (k : Int) (p q : BitVec 64) (e : Int), (∀ H, R f_bv_Two [.int .i64 n, .agg [.int .i64 w, u l, u h], .agg [.int .i64 w', u l', u h']] H = some (.tup [.agg [.int .i64 k, u p, u q], .int .i64 e], H)) ∧ ∀ H, R f_plaitref1_Two [.int .i64 n, .agg [.int .i64 w, u l, u h], .agg [.int .i64 w', u l', u h']] H = some (.tup [.agg [.int .i64 k, u p, u q], .int .i64 e], H) := by
  by_cases hb : isWd w l h = true ∧ isWd w' l' h' = true ∧ w = w'
  · obtain ⟨h1, h2, rfl⟩ := hb
    obtain ⟨m, x, m1, m2, e0, rfl, rfl⟩ := isWd_word h1
    obtain ⟨m', y, m1', m2', e0', rfl, rfl⟩ := isWd_word h2
    have : m' = m := by omega
    subst this
    subst e0
    obtain ⟨k, p, q, hs⟩ := twoF_shape n x y
    refine ⟨k, p, q, twoE n, fun H => ?_, fun H => ?_⟩
    · rw [← hs]; exact (two_run m1 m2).run
    · rw [← hs]; exact reftwo_run m1 m2
  · have hb' : isWd w l h = false ∨ isWd w' l' h' = false ∨ ¬ w = w' := by
      cases h1 : isWd w l h
      · exact .inl rfl
      · cases h2 : isWd w' l' h'
        · exact .inr (.inl rfl)
        · exact .inr (.inr fun e => hb ⟨h1, h2, e⟩)
    obtain ⟨k, p, q, hs⟩ := Bt_shape 0 0#128
    exact ⟨k, p, q, 10, fun H => by rw [← hs]; exact bvtwo_bad hb', fun H => by rw [← hs]; exact reftwo_bad hb'⟩
theorem one_same (n w : Int) (l h : BitVec 64) : ∃ (k : Int) (p q : BitVec 64) (e : Int), (∀ H, R f_bv_One [.int .i64 n, .agg [.int .i64 w, u l, u h]] H = some (.tup [.agg [.int .i64 k, u p, u q], .int .i64 e], H)) ∧ ∀ H, R f_plaitref1_One [.int .i64 n, .agg [.int .i64 w, u l, u h]] H = some (.tup [.agg [.int .i64 k, u p, u q], .int .i64 e], H) := by
  cases h1 : isWd w l h with
  | true =>
    obtain ⟨m, x, m1, m2, rfl, rfl, rfl⟩ := isWd_word h1
    obtain ⟨k, p, q, hs⟩ := oneF_shape n x
    refine ⟨k, p, q, if n = 10 ∨ n = 11 then 0 else 11, fun H => ?_, fun H => ?_⟩
    · rw [← hs]; exact (one_run m1 m2).run
    · rw [← hs]; exact refone_run m1 m2
  | false =>
    obtain ⟨k, p, q, hs⟩ := Bt_shape 0 0#128
    exact ⟨k, p, q, 10, fun H => by rw [← hs]; exact bvone_bad h1, fun H => by rw [← hs]; exact refone_bad h1⟩
theorem new_same (n : Int) (l h : BitVec 64) : ∃ (k : Int) (p q : BitVec 64) (e : Int), (∀ H, R f_bv_New [.int .i64 n, u l, u h] H = some (.tup [.agg [.int .i64 k, u p, u q], .int .i64 e], H)) ∧ ∀ H, R f_plaitref1_New [.int .i64 n, u l, u h] H = some (.tup [.agg [.int .i64 k, u p, u q], .int .i64 e], H) := by
  by_cases c1 : n < 1
  · refine ⟨0, 0#64, 0#64, 10, fun H => ?_, fun H => ?_⟩
    · rw [e_bv_New]; simp (maxDischargeDepth := 40) [c_bv_New, c1]
    · rw [e_plaitref1_New]; simp (maxDischargeDepth := 40) [c_plaitref1_New, c1]
  by_cases c2 : 128 < n
  · refine ⟨0, 0#64, 0#64, 10, fun H => ?_, fun H => ?_⟩
    · rw [e_bv_New]; simp (maxDischargeDepth := 40) [c_bv_New, c1, c2]
    · rw [e_plaitref1_New]; simp (maxDischargeDepth := 40) [c_plaitref1_New, c1, c2]
  obtain ⟨m, rfl⟩ := Int.eq_ofNat_of_zero_le (show 0 ≤ n by omega)
  obtain ⟨k, p, q, hs⟩ := Bt_shape m (E ((mkN l h).setWidth m))
  have hs' : B ((mkN l h).setWidth m) = .agg [.int .i64 k, u p, u q] := hs
  refine ⟨k, p, q, 0, fun H => ?_, fun H => ?_⟩
  · have := (bvnew_run (by omega) (by omega) (w := m) (x := mkN l h) (H := H)).run
    rw [lo_mk, hi_mk, hs'] at this; exact this
  · have := (newR_run (by omega) (by omega) (w := m) (x := mkN l h) (H := H)).run
    rw [lo_mk, hi_mk, hs'] at this; exact this
theorem bit_same (i w : Int) (l h : BitVec 64) : ∃ (b : Bool) (e : Int), (∀ H, R f_bv_Bit [.agg [.int .i64 w, u l, u h], .int .i64 i] H = some (.tup [.bool b, .int .i64 e], H)) ∧ ∀ H, R f_plaitref1_Bit [.agg [.int .i64 w, u l, u h], .int .i64 i] H = some (.tup [.bool b, .int .i64 e], H) := by
  have r1 := fun H => bvword_run (w := w) (l := l) (h := h) (H := H)
  have r2 := fun H => refword_run (w := w) (l := l) (h := h) (H := H)
  cases h1 : isWd w l h with
  | false =>
    rw [h1] at r1 r2
    refine ⟨false, 10, fun H => ?_, fun H => ?_⟩
    · rw [e_bv_Bit]; simp (maxDischargeDepth := 40) [c_bv_Bit, r1]
    · rw [e_plaitref1_Bit]; simp (maxDischargeDepth := 40) [c_plaitref1_Bit, r2]
  | true =>
    rw [h1] at r1 r2
    obtain ⟨m, x, m1, m2, rfl, rfl, rfl⟩ := isWd_word h1
    by_cases c1 : i < 0
    · refine ⟨false, 12, fun H => ?_, fun H => ?_⟩
      · rw [e_bv_Bit]; simp (maxDischargeDepth := 40) [c_bv_Bit, r1, c1]
      · rw [e_plaitref1_Bit]; simp (maxDischargeDepth := 40) [c_plaitref1_Bit, r2, c1]
    by_cases c2 : (m : Int) ≤ i
    · refine ⟨false, 12, fun H => ?_, fun H => ?_⟩
      · rw [e_bv_Bit]; simp (maxDischargeDepth := 40) [c_bv_Bit, r1, c1, c2]
      · rw [e_plaitref1_Bit]; simp (maxDischargeDepth := 40) [c_plaitref1_Bit, r2, c1, c2]
    obtain ⟨j, rfl⟩ := Int.eq_ofNat_of_zero_le (show 0 ≤ i by omega)
    have hj : j < m := by omega
    refine ⟨x.getLsbD j, 0, fun H => ?_, fun H => ?_⟩
    · exact (bvbit_run m1 m2 hj).run
    · rw [e_plaitref1_Bit]
      obtain ⟨H1, hb1, kb1, sb1, rb1⟩ := bitsB_run m2 x (H.new (.cells [.int .i64 m, u (lo (E x)), u (hi (E x))]))
      have k1 : Keeps H H1 := (Keeps.new _ _).trans kb1
      simp only [new_size] at hb1 rb1 sb1
      have a1 := rb1.ix (P := Go.Proofs.Try.prog) (t := T_s_bool) (by simp) (i := j) (by simpa using hj)
      have a2 := rb1.at (P := Go.Proofs.Try.prog) (t := T_bool) (by simp) (i := j) (by simpa using hj)
      rw [bl_getD] at a2
      have c2' : ¬ (m : Int) ≤ j := c2
      have c1' : ¬ (j : Int) < 0 := c1
      generalize x.getLsbD j = p at *
      simp (maxDischargeDepth := 40) [c_plaitref1_Bit, r2, c2', hb1, a1, a2, k1]

theorem op2_run {n w w' : Int} {l h l' h' : BitVec 64} {H : AHeap} : R f_plaitlaw1_op2 [.int .i64 n, .agg [.int .i64 w, u l, u h], .agg [.int .i64 w', u l', u h']] H = some (.bool true, H) := by
  obtain ⟨k, p, q, e, g1, g2⟩ := two_same n w w' l h l' h'
  obtain ⟨k', p', q', e', g3, g4⟩ := one_same n w l h
  rw [e_plaitlaw1_op2]
  simp (maxDischargeDepth := 40) (maxSteps := 4000000) [c_plaitlaw1_op2, g1, g2, g3, g4]

theorem ops_run {n w w' i : Int} {l h l' h' : BitVec 64} {H : AHeap} : R f_plaitlaw1_BvOps [.int .i64 n, .agg [.int .i64 w, u l, u h], .agg [.int .i64 w', u l', u h'], .int .i64 i] H = some (.bool true, H) := by
  generalize hr : R f_plaitlaw1_BvOps _ _ = r
  rw [e_plaitlaw1_BvOps] at hr
  have hk := fun H => known_run (H := H)
  have r1 := fun H => bvRight_run (w := w) (l := l) (h := h) (H := H)
  have r2 := fun H => rightR_run (w := w) (l := l) (h := h) (H := H)
  have ho := fun n H => op2_run (n := n) (w := w) (w' := w') (l := l) (h := h) (l' := l') (h' := h') (H := H)
  obtain ⟨b, e, b1, b2⟩ := bit_same i w l h
  obtain ⟨k, p, q, e', n1, n2⟩ := new_same i l h
  have bo1 := fun H => (boolB_run (b := b) (H := H)).run
  have bo2 := fun H => refbool_run (b := b) (H := H)
  simp only [Bt] at bo1 bo2
  simp (maxDischargeDepth := 40) [c_plaitlaw1_BvOps, hk, r1, r2] at hr
  generalize hL : loopL _ _ _ _ _ _ = qq at hr
  have hloop := loop_count l_plaitlaw1_BvOps_0.eq_1 hL 46 (fun j e1 H1 => e1 9 = some (.int .i64 j) ∧ H1 = (H.new (.cells [.int .i64 w, u l, u h])).new (.cells [.int .i64 w', u l', u h'])) (fun y e' H' => y = .exit 0 ∧ H' = (H.new (.cells [.int .i64 w, u l, u h])).new (.cells [.int .i64 w', u l', u h'])) 0 (by omega) ⟨by simp, rfl⟩ ?_ ?_
  · obtain ⟨y, e1, H1, rfl, ⟨rfl, rfl⟩, fr⟩ := hloop
    simp (maxDischargeDepth := 40) (maxSteps := 4000000) [fr, b1, b2, n1, n2, ho, bo1, bo2] at hr
    exact hr.symm
  · rintro j f H1 hf - hj ⟨f9, rfl⟩
    have w1 := i64w (n := (j : Int) + 1) (by omega) (by omega)
    have c1 : (j : Int) ≤ 45 := by omega
    simp (maxDischargeDepth := 40) [hf, f9, c1, ho, w1]
  · rintro f H1 hf ⟨f9, rfl⟩
    simp [f9]

theorem tv_int3 {d : Nat} {a : AV} (h : TV Go.Proofs.Try.prog (d + 1) 3 a) : ∃ n, a = .int .i64 n ∧ -9223372036854775808 ≤ n ∧ n ≤ 9223372036854775807 := tv_i64 Go.Proofs.Try.underlying3 h
theorem threeV {cs : List AV} (h : cs.length = 3) : ∃ a b c, cs = [a, b, c] := by
  match cs, h with
  | [a, b, c], _ => exact ⟨a, b, c, rfl⟩
theorem tv_bits24 {d : Nat} {a : AV} (h : TV Go.Proofs.Try.prog (d + 2) 24 a) : ∃ w l h, a = .agg [.int .i64 w, u l, u h] := by
  obtain ⟨cs, rfl, h2⟩ := tv_struct Go.Proofs.Try.underlying24 h
  have c3 : Go.Proofs.Try.prog.cellsOf 24 = 3 := by kernel_rfl
  have c1 : Go.Proofs.Try.prog.cellsOf 3 = 1 := by kernel_rfl
  have cu : Go.Proofs.Try.prog.cellsOf 22 = 1 := by kernel_rfl
  obtain ⟨hl, hf⟩ := tc_struct Go.Proofs.Try.underlying24 h2
  rw [c3] at hl
  obtain ⟨x0, x1, x2, rfl⟩ := threeV hl
  simp [c1, cu] at hf
  obtain ⟨g0, g1, g2⟩ := hf
  obtain ⟨n0, e0, -⟩ := tc_i64 Go.Proofs.Try.underlying3 g0
  obtain ⟨y1, e1⟩ := tc_u64 Go.Proofs.Try.underlying22 g1
  obtain ⟨y2, e2⟩ := tc_u64 Go.Proofs.Try.underlying22 g2
  simp at e0 e1 e2
  exact ⟨n0, y1, y2, by rw [e0, e1, e2]⟩
theorem BvOps_law {a0 a1 a2 a3 : AV} (y0 : TV Go.Proofs.Try.prog 8 3 a0) (y1 : TV Go.Proofs.Try.prog 8 24 a1) (y2 : TV Go.Proofs.Try.prog 8 24 a2) (y3 : TV Go.Proofs.Try.prog 8 3 a3) : ∃ H', R f_plaitlaw1_BvOps [a0, a1, a2, a3] H0 = some (.bool true, H') := by
  obtain ⟨n0, rfl, -⟩ := tv_int3 y0
  obtain ⟨w, l, h, rfl⟩ := tv_bits24 (d := 6) y1
  obtain ⟨w', l', h', rfl⟩ := tv_bits24 (d := 6) y2
  obtain ⟨n3, rfl, -⟩ := tv_int3 y3
  exact ⟨_, ops_run⟩
end Go.Proofs.Ytcnhpkongbdihaa

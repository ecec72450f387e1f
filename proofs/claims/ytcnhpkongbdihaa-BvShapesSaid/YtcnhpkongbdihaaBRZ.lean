/- Repeat of both, on any values; the law BvShapes. -/
import Derived.Test.YtcnhpkongbdihaaBRY
namespace Go.Proofs.Ytcnhpkongbdihaa
set_option maxRecDepth 100000
set_option maxHeartbeats 2000000

/-- So many copies of a word's bits. -/
def repL {w : Nat} (x : BitVec w) : Nat → List Bool
  | 0 => []
  | n + 1 => repL x n ++ bl x
theorem repL_len {w : Nat} (x : BitVec w) : ∀ n, (repL x n).length = w * n
  | 0 => rfl
  | n + 1 => by rw [repL, List.length_append, repL_len x n, bl_length, Nat.mul_succ]
theorem repL_bit {w : Nat} (x : BitVec w) : ∀ n i, i < w * n → (repL x n).getD i false = x.getLsbD (i % w)
  | 0, i, h => by simp at h
  | n + 1, i, h => by
    rw [repL, List.getD_eq_getElem?_getD, List.getElem?_append, repL_len]
    by_cases c : i < w * n
    · rw [if_pos c, ← List.getD_eq_getElem?_getD, repL_bit x n i c]
    · rw [if_neg c, ← List.getD_eq_getElem?_getD, bl_getD]
      have h2 : i - w * n < w := by rw [Nat.mul_succ] at h; omega
      have : i % w = i - w * n := by
        rw [show i = (i - w * n) + w * n from by omega, Nat.add_mul_mod_self_left, Nat.mod_eq_of_lt h2]; omega
      rw [this]

theorem rrep_loop {H : AHeap} {w n : Nat} (h1 : 1 ≤ w) (hw : w ≤ 128) (hn : w * n ≤ 128) (hn2 : n ≤ 128) {x : BitVec w} {p B0 : Nat} (hB : B0 ≤ H.size) (hp : p < B0) (op : H.obj p = .cells [.int .i64 w, u (lo (E x)), u (hi (E x))]) {e : Env} {r : Rn} (hL : loopL Go.Proofs.Try.prog KT R l_plaitref1_Repeat_0 e H = r)
    (e1' : e 1 = some (.int .i64 n)) (e2 : e 2 = some (.ptr p 0)) (e6 : e 6 = some .nils) :
    ∃ y e' H', r = some (y, e', H') ∧ (y = .exit 0 ∧ H.size ≤ H'.size ∧ (∀ q, q < B0 → H'.obj q = H.obj q) ∧ (∀ A, Keeps A H → A.size ≤ B0 → Keeps A H') ∧ ∃ v, e' 6 = some v ∧ RB H' v (repL x n)) ∧ ∀ t, t ∉ defs l_plaitref1_Repeat_0 → e' t = e t := by
  refine loop_rule l_plaitref1_Repeat_0.eq_1 hL (fun m e1 H1 => m ≤ n ∧ e1 1 = some (.int .i64 m) ∧ H.size ≤ H1.size ∧ (∀ q, q < B0 → H1.obj q = H.obj q) ∧ (∀ A, Keeps A H → A.size ≤ B0 → Keeps A H1) ∧ ∃ v, e1 6 = some v ∧ RB H1 v (repL x (n - m)) ∧ grows v ∧ ∀ q, q ∈ objs v → B0 ≤ q) _ n ⟨Nat.le_refl _, e1', Nat.le_refl _, fun _ _ => rfl, fun _ k _ => k, .nils, e6, by rw [Nat.sub_self]; exact RB.nils, by simp, by simp⟩ ?_
  rintro m f H1 hf ⟨hmn, f1, z1, ob1, kA, v, f6, hv, gv, nv⟩
  cases m with
  | zero =>
    simp [f1]
    exact ⟨z1, ob1, kA, v, f6, by simpa using hv⟩
  | succ m =>
    have w1 : IntKind.i64.wrap (m : Int) = (m : Int) := i64w (by omega) (by omega)
    have e1i : ((m : Int) + 1 - 1) = (m : Int) := by omega
    have p1 : (0 : Int) < (m : Int) + 1 := by omega
    have op1 := (ob1 p hp).trans op
    have lp : p < H1.size := by omega
    obtain ⟨v1, H2, hb1, kb1, sb1, rb1, -, -⟩ := bitsV_run hw x H1
    simp (maxDischargeDepth := 40) [hf, e2, f1, f6, p1, op1, lp, hb1]
    generalize hA : appU _ _ _ _ = q
    have hle : w * (n - (m + 1)) ≤ 128 := Nat.le_trans (Nat.mul_le_mul_left w (by omega)) hn
    obtain ⟨H3, rfl, f3, s3, rb3⟩ := appB hA (hv.keep kb1) gv rb1 (by simp; omega) (by rw [repL_len, bl_length]; omega)
    have hls2 : repL x (n - (m + 1)) ++ bl x = repL x (n - m) := by
      rw [show n - m = (n - (m + 1)) + 1 from by omega]; rfl
    rw [hls2] at rb3
    simp (maxDischargeDepth := 40) [f1, e1i, w1]
    refine ⟨m, by omega, by omega, rfl, by omega, fun q hq => ?_, fun A k hk => ?_, ?_, by omega⟩
    · rw [f3.obj q (by omega) (fun hh => by have := nv q hh; omega), kb1.obj q (by omega)]; exact ob1 q hq
    · exact f3.keeps ((kA A k hk).trans kb1) (fun p hp => by have := nv p hp; omega)
    · simpa using rb3

theorem repeat_same (w n : Int) (l h : BitVec 64) : ∃ (k : Int) (p q : BitVec 64) (e : Int), (∀ H, R f_bv_Repeat [.agg [.int .i64 w, u l, u h], .int .i64 n] H = some (.tup [.agg [.int .i64 k, u p, u q], .int .i64 e], H)) ∧ ∀ H, R f_plaitref1_Repeat [.agg [.int .i64 w, u l, u h], .int .i64 n] H = some (.tup [.agg [.int .i64 k, u p, u q], .int .i64 e], H) := by
  have r1 := fun H => bvword_run (w := w) (l := l) (h := h) (H := H)
  have r2 := fun H => refword_run (w := w) (l := l) (h := h) (H := H)
  cases h1 : isWd w l h with
  | false =>
    rw [h1] at r1 r2
    refine ⟨0, 0#64, 0#64, 10, fun H => ?_, fun H => ?_⟩
    · rw [e_bv_Repeat]; simp (maxDischargeDepth := 40) [c_bv_Repeat, r1]
    · rw [e_plaitref1_Repeat]; simp (maxDischargeDepth := 40) [c_plaitref1_Repeat, r2]
  | true =>
    rw [h1] at r1 r2
    obtain ⟨m, x, m1, m2, rfl, rfl, rfl⟩ := isWd_word h1
    by_cases c1 : n < 1
    · refine ⟨0, 0#64, 0#64, 12, fun H => ?_, fun H => ?_⟩
      · rw [e_bv_Repeat]; simp (maxDischargeDepth := 40) [c_bv_Repeat, r1, c1]
      · rw [e_plaitref1_Repeat]; simp (maxDischargeDepth := 40) [c_plaitref1_Repeat, r2, c1]
    have m0 : ¬ m = 0 := by omega
    have m0' : ¬ (m : Int) = 0 := by omega
    have hq : (128 : Int).tdiv (m : Int) = ((128 / m : Nat) : Int) := by rw [Int.tdiv_eq_ediv_of_nonneg (by omega)]; rfl
    have hqle : 128 / m ≤ 128 := Nat.div_le_self _ _
    have hmul : m * (128 / m) ≤ 128 := Nat.mul_div_le _ _
    have hmul2 : ∀ k, 128 / m < k → 128 < m * k := fun k hk => by
      have := (Nat.div_lt_iff_lt_mul (by omega : 0 < m)).1 hk
      rwa [Nat.mul_comm] at this
    generalize 128 / m = Q at *
    have wq : IntKind.i64.wrap (Q : Int) = (Q : Int) := i64w (by omega) (by omega)
    by_cases c2 : (Q : Int) < n
    · refine ⟨0, 0#64, 0#64, 10, fun H => ?_, fun H => ?_⟩
      · rw [e_bv_Repeat]; simp (maxDischargeDepth := 40) [c_bv_Repeat, r1, c1, m0, hq, wq, c2]
      · rw [e_plaitref1_Repeat]; simp (maxDischargeDepth := 40) [c_plaitref1_Repeat, r2, c1, m0, hq, wq, c2]
    obtain ⟨n, rfl⟩ := Int.eq_ofNat_of_zero_le (show 0 ≤ n by omega)
    have hn1 : 1 ≤ n := by omega
    have hnq : n ≤ Q := by omega
    have hmn : m * n ≤ 128 := Nat.le_trans (Nat.mul_le_mul_left m hnq) hmul
    have c1' : ¬ (n : Int) < 1 := c1
    have c2' : ¬ (Q : Int) < n := c2
    refine ⟨(m * n : Nat), lo (E (repB x n)), hi (E (repB x n)), 0, fun H => ?_, fun H => ?_⟩
    · exact (repeat_run m1 hmn hn1).run
    · generalize hr : R f_plaitref1_Repeat _ H = r
      rw [e_plaitref1_Repeat] at hr
      simp (maxDischargeDepth := 40) (maxSteps := 300000) [c_plaitref1_Repeat, r2, c1', m0, hq, wq, c2'] at hr
      generalize hL : loopL _ _ _ _ _ _ = q at hr
      obtain ⟨y, e1, H2, rfl, ⟨rfl, z2, ob2, kA, v, e6, hv⟩, fr⟩ := rrep_loop (x := x) (p := H.size) (B0 := H.size + 2) m1 m2 hmn (by omega) (by simp) (by omega) (by simp) hL (by simp) (by simp) (by simp)
      have hwd := wordL hv (s := m * n) (repL_len x n) hmn (z := E (repB x n)) (fun i hi => by
        rw [repL_bit x n i hi, E_bit hmn, repB_bit (by omega) x hmn]; simp [hi])
      rw [E_set hmn] at hwd
      have o2z : H2.obj (H.size + 1) = .cells [.int .i64 0, u 0#64, u 0#64] := by rw [ob2 _ (by omega)]; simp
      have k2 := kA H ((Keeps.new _ _).trans (Keeps.new _ _)) (by omega)
      simp only [new_size] at z2
      have z3 : H.size + 1 < H2.size := by omega
      have kX : ∀ X, Keeps H (H2.set (H.size + 1) X) := fun X => k2.set (by omega) X
      generalize E (repB x n) = zz at *
      simp (maxDischargeDepth := 40) (maxSteps := 300000) [fr, e6, hwd, o2z, z3, kX] at hr
      rw [← hr]; simp

theorem shapes_loop {w i : Int} {l h : BitVec 64} {H : AHeap} {p a b c d : Nat} (op : H.obj p = .cells [.int .i64 w, u l, u h]) (oa : ∃ (x : Int) (y z : BitVec 64), H.obj a = .cells [.int .i64 x, u y, u z]) (ob : ∃ (x : Int) (y z : BitVec 64), H.obj b = .cells [.int .i64 x, u y, u z]) (oc : ∃ (x : Int) (y z : BitVec 64), H.obj c = .cells [.int .i64 x, u y, u z]) (od : ∃ (x : Int) (y z : BitVec 64), H.obj d = .cells [.int .i64 x, u y, u z])
    (la : a < H.size) (lb : b < H.size) (lc : c < H.size) (ld : d < H.size) (pa : p < a) (ab : a < b) (bc : b < c) (cd : c < d) {e : Env} {r : Rn} (hL : loopL Go.Proofs.Try.prog KT R l_plaitlaw1_BvShapes_0 e H = r)
    (e2 : e 2 = some (.int .i64 i)) (e4 : e 4 = some (.ptr p 0)) (e9 : e 9 = some (.ptr a 0)) (e11 : e 11 = some (.ptr b 0)) (e13 : e 13 = some (.ptr c 0)) (e15 : e 15 = some (.ptr d 0)) (e17 : e 17 = some (.int .i64 0)) :
    ∃ y e' H', r = some (y, e', H') ∧ (y = .exit 0 ∧ Fr [a, b, c, d] H H' ∧ H'.obj p = .cells [.int .i64 w, u l, u h] ∧ (∃ (x : Int) (y z : BitVec 64), H'.obj a = .cells [.int .i64 x, u y, u z]) ∧ ∃ (x : Int) (y z : BitVec 64), H'.obj b = .cells [.int .i64 x, u y, u z]) ∧ ∀ t, t ∉ defs l_plaitlaw1_BvShapes_0 → e' t = e t := by
  refine loop_count l_plaitlaw1_BvShapes_0.eq_1 hL 2 (fun k e1 H1 => e1 17 = some (.int .i64 k) ∧ Fr [a, b, c, d] H H1 ∧ H1.obj p = .cells [.int .i64 w, u l, u h] ∧ (∃ (x : Int) (y z : BitVec 64), H1.obj a = .cells [.int .i64 x, u y, u z]) ∧ (∃ (x : Int) (y z : BitVec 64), H1.obj b = .cells [.int .i64 x, u y, u z]) ∧ (∃ (x : Int) (y z : BitVec 64), H1.obj c = .cells [.int .i64 x, u y, u z]) ∧ ∃ (x : Int) (y z : BitVec 64), H1.obj d = .cells [.int .i64 x, u y, u z]) _ 0 (by omega) ⟨e17, Fr.refl _ _, op, oa, ob, oc, od⟩ ?_ ?_
  · rintro k f H1 hf - hk ⟨f17, fr1, op1, ⟨xa, ya, za, oa1⟩, ⟨xb, yb, zb, ob1⟩, ⟨xc, yc, zc, oc1⟩, ⟨xd, yd, zd, od1⟩⟩
    obtain ⟨k3, p3, q3, x3, c5, c6⟩ := extend_same w i (decide (k = 0)) l h
    obtain ⟨k4, p4, q4, x4, c7, c8⟩ := rotate_same w i (decide (k = 0)) l h
    have la1 := fr1.lt la
    have lb1 := fr1.lt lb
    have lc1 := fr1.lt lc
    have ld1 := fr1.lt ld
    have d1 : ¬ p = a := by omega
    have d2 : ¬ p = b := by omega
    have d3 : ¬ p = c := by omega
    have d4 : ¬ p = d := by omega
    have d5 : ¬ a = b := by omega
    have d6 : ¬ a = c := by omega
    have d7 : ¬ a = d := by omega
    have d8 : ¬ b = c := by omega
    have d9 : ¬ b = d := by omega
    have d10 : ¬ c = d := by omega
    have d11 : ¬ b = a := by omega
    have d12 : ¬ c = a := by omega
    have d13 : ¬ d = a := by omega
    have d14 : ¬ c = b := by omega
    have d15 : ¬ d = b := by omega
    have d16 : ¬ d = c := by omega
    have w1 := i64w (n := (k : Int) + 1) (by omega) (by omega)
    have c1 : (k : Int) < 2 := by omega
    have F2 : Fr [a, b, c, d] H ((((H1.set a (.cells [.int .i64 k3, u p3, u q3])).set b (.cells [.int .i64 k3, u p3, u q3])).set c (.cells [.int .i64 k4, u p4, u q4])).set d (.cells [.int .i64 k4, u p4, u q4])) := (((fr1.set (.inl (by simp)) _).set (.inl (by simp)) _).set (.inl (by simp)) _).set (.inl (by simp)) _
    simp (maxDischargeDepth := 40) (maxSteps := 1000000) [hf, e2, e4, e9, e11, e13, e15, f17, c1, w1, op1, oa1, ob1, oc1, od1, la1, lb1, lc1, ld1, c5, c6, c7, c8, d1, d2, d3, d4, d5, d6, d7, d8, d9, d10, d11, d12, d13, d14, d15, d16]
    exact ⟨F2, ⟨⟨_, rfl⟩, ⟨_, rfl⟩⟩, ⟨_, rfl⟩, ⟨_, rfl⟩⟩
  · rintro f H1 hf ⟨f17, fr1, op1, oa1, ob1, oc1, od1⟩
    simp [f17]
    exact ⟨fr1, op1, oa1, ob1⟩

theorem shapes_run {w w' i j : Int} {l h l' h' : BitVec 64} {H : AHeap} : R f_plaitlaw1_BvShapes [.agg [.int .i64 w, u l, u h], .agg [.int .i64 w', u l', u h'], .int .i64 i, .int .i64 j] H = some (.bool true, H) := by
  generalize hr : R f_plaitlaw1_BvShapes _ _ = r
  rw [e_plaitlaw1_BvShapes] at hr
  have hk := fun H => known_run (H := H)
  obtain ⟨k1, p1, q1, x1, c1, c2⟩ := concat_same w w' l h l' h'
  obtain ⟨k2, p2, q2, x2, c3, c4⟩ := extract_same w i j l h
  obtain ⟨k5, p5, q5, x5, c9, c10⟩ := repeat_same w i l h
  simp (maxDischargeDepth := 40) (maxSteps := 1000000) [c_plaitlaw1_BvShapes, hk, c1, c2, c3, c4] at hr
  generalize hL : loopL _ _ _ _ _ _ = q at hr
  generalize hH0 : AHeap.set _ _ _ = Hs at hL
  have kH : Keeps H Hs := by rw [← hH0]; simp (maxDischargeDepth := 40)
  have zH : Hs.size = H.size + 6 := by rw [← hH0]; simp
  have o0 : Hs.obj H.size = .cells [.int .i64 w, u l, u h] := by rw [← hH0]; simp
  have o2 : Hs.obj (H.size + 1 + 1) = .cells [.int .i64 k1, u p1, u q1] := by rw [← hH0]; simp
  have o3 : Hs.obj (H.size + 1 + 1 + 1) = .cells [.int .i64 k1, u p1, u q1] := by rw [← hH0]; simp
  have o4 : Hs.obj (H.size + 1 + 1 + 1 + 1) = .cells [.int .i64 k2, u p2, u q2] := by rw [← hH0]; simp
  have o5 : Hs.obj (H.size + 1 + 1 + 1 + 1 + 1) = .cells [.int .i64 k2, u p2, u q2] := by rw [← hH0]; simp
  clear hH0
  obtain ⟨y, e1, H1, rfl, ⟨rfl, f1, op, ⟨xa, ya, za, oa⟩, ⟨xb, yb, zb, ob⟩⟩, fr⟩ := shapes_loop (i := i) (p := H.size) (a := H.size + 1 + 1) (b := H.size + 1 + 1 + 1) (c := H.size + 1 + 1 + 1 + 1) (d := H.size + 1 + 1 + 1 + 1 + 1) o0 ⟨_, _, _, o2⟩ ⟨_, _, _, o3⟩ ⟨_, _, _, o4⟩ ⟨_, _, _, o5⟩ (by omega) (by omega) (by omega) (by omega) (by omega) (by omega) (by omega) (by omega) hL (by simp) (by simp) (by simp) (by simp) (by simp) (by simp) (by simp)
  have k3 : Keeps H H1 := f1.keeps kH (by simp <;> omega)
  have z1 := f1.size
  have la : H.size + 1 + 1 < H1.size := by omega
  have lb : H.size + 1 + 1 + 1 < H1.size := by omega
  have kX : ∀ X Y, Keeps H ((H1.set (H.size + 1 + 1) X).set (H.size + 1 + 1 + 1) Y) := fun X Y => (k3.set (by omega) X).set (by omega) Y
  simp (maxDischargeDepth := 40) (maxSteps := 1000000) [fr, op, oa, ob, la, lb, c9, c10, kX] at hr
  exact hr.symm
theorem BvShapes_law {a0 a1 a2 a3 : AV} (y0 : TV Go.Proofs.Try.prog 8 24 a0) (y1 : TV Go.Proofs.Try.prog 8 24 a1) (y2 : TV Go.Proofs.Try.prog 8 3 a2) (y3 : TV Go.Proofs.Try.prog 8 3 a3) : ∃ H', R f_plaitlaw1_BvShapes [a0, a1, a2, a3] H0 = some (.bool true, H') := by
  obtain ⟨w, l, h, rfl⟩ := tv_bits24 (d := 6) y0
  obtain ⟨w', l', h', rfl⟩ := tv_bits24 (d := 6) y1
  obtain ⟨n2, rfl, -⟩ := tv_int3 y2
  obtain ⟨n3, rfl, -⟩ := tv_int3 y3
  exact ⟨_, shapes_run⟩
end Go.Proofs.Ytcnhpkongbdihaa

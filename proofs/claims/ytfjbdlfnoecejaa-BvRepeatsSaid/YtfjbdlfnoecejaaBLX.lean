/- The law BvRepeats: a repetition is its word above itself so many times. -/
import Derived.Test.YtfjbdlfnoecejaaBLA
namespace Go.Proofs.Ytfjbdlfnoecejaa
set_option maxRecDepth 100000

theorem rot_rep {w n s k d k2 d2 : Nat} (h1 : 1 ≤ w) (hn : 1 ≤ n) (hs : s = w * n) (hm : s ≤ 128) (hk : k = w % s) (hd : d = s - k) (hk2 : k2 = d % s) (hd2 : d2 = s - k2) (x : BitVec w) {r : BitVec s} (hr : ∀ i, r.getLsbD i = (decide (i < s) && x.getLsbD (i % w))) :
    (E r <<< k2 ||| E r >>> d2).setWidth s = r := by
  apply BitVec.eq_of_getLsbD_eq
  intro i hi
  have hi128 : i < 128 := by omega
  rw [BitVec.getLsbD_setWidth, BitVec.getLsbD_or, BitVec.getLsbD_shiftLeft, BitVec.getLsbD_ushiftRight, E_bit hm, E_bit hm, hr, hr, hr]
  simp only [hi, hi128, decide_true, Bool.true_and]
  by_cases hn1 : n = 1
  · have e : s = w := by rw [hs, hn1]; simp
    have ek : k = 0 := by rw [hk, e, Nat.mod_self]
    have ed : d = s := by omega
    have ek2 : k2 = 0 := by rw [hk2, ed, Nat.mod_self]
    have ed2 : d2 = s := by omega
    have c1 : ¬ s + i < s := by omega
    rw [ek2, ed2]
    simp [hi, c1]
  · have hle : w * 2 ≤ w * n := Nat.mul_le_mul_left w (by omega)
    have ek : k = w := by rw [hk, Nat.mod_eq_of_lt (by omega)]
    have ek2 : k2 = s - w := by rw [hk2, hd, ek, Nat.mod_eq_of_lt (by omega)]
    have ed2 : d2 = w := by omega
    have m1 : (w + i) % w = i % w := by rw [Nat.add_comm, Nat.add_mod_right]
    obtain ⟨c, rfl⟩ : ∃ c, n = c + 1 := ⟨n - 1, by omega⟩
    have es : s - w = w * c := by rw [hs, Nat.mul_add]; simp
    rw [ek2, ed2, m1]
    by_cases hlo : i < s - w
    · have c1 : w + i < s := by omega
      simp [hlo, c1]
    · have c1 : ¬ w + i < s := by omega
      have c2 : i - (s - w) < s := by omega
      have m2 : (i - (s - w)) % w = i % w := by
        have : i = (i - (s - w)) + w * c := by omega
        conv => rhs; rw [this, Nat.add_mul_mod_self_left]
      simp [hlo, c1, c2, m2]

theorem law_rep_loop {w n : Nat} (h1 : 1 ≤ w) (hm : w * n ≤ 128) (hn : 1 ≤ n) (hn2 : n ≤ 128) {x : BitVec w} {o9 o12 : Nat} (hne : ¬ o9 = o12) {e : Env} {H : AHeap} {r : Rn} (hL : loopL Go.Proofs.Try.prog KT R l_plaitlaw1_BvRepeats_0 e H = r)
    (l9 : o9 < H.size) (l12 : o12 < H.size) (b9 : H.obj o9 = .cells [.int .i64 w, u (lo (E x)), u (hi (E x))]) (b12 : H.obj o12 = .cells [.int .i64 (w * 1 : Nat), u (lo (E (repB x 1))), u (hi (E (repB x 1)))])
    (e1 : e 1 = some (.int .i64 n)) (e9 : e 9 = some (.ptr o9 0)) (e12 : e 12 = some (.ptr o12 0)) (e13 : e 13 = some (.int .i64 1)) :
    ∃ y e' H', r = some (y, e', H') ∧ (y = .exit 0 ∧ Fr [o12] H H' ∧ H'.obj o12 = .cells [.int .i64 (w * n : Nat), u (lo (E (repB x n))), u (hi (E (repB x n)))]) ∧ ∀ t, t ∉ defs l_plaitlaw1_BvRepeats_0 → e' t = e t := by
  refine loop_count l_plaitlaw1_BvRepeats_0.eq_1 hL n (fun i e1 H1 => e1 13 = some (.int .i64 i) ∧ Fr [o12] H H1 ∧ H1.obj o12 = .cells [.int .i64 (w * i : Nat), u (lo (E (repB x i))), u (hi (E (repB x i)))]) _ 1 hn
    ⟨e13, Fr.refl _ _, b12⟩ ?_ ?_
  · rintro i f H1 hf h1i hi' ⟨f13, k, hob⟩
    have hle : w * (i + 1) ≤ w * n := Nat.mul_le_mul_left w (by omega)
    have hw1 := i64w (n := (i : Int) + 1) (by omega) (by omega)
    have r := fun H => (rep_concat h1 (k := i) (by omega) (by omega) (x := x) (H := H)).run
    simp only [B, Bt] at r
    have ho9 : H1.obj o9 = .cells [.int .i64 w, u (lo (E x)), u (hi (E x))] := by rw [k.obj _ l9 (by simpa using hne)]; exact b9
    have n9 : ¬ o9 = H1.size := Nat.ne_of_lt (k.lt l9)
    have n12 : ¬ o12 = H1.size := Nat.ne_of_lt (k.lt l12)
    have n12' : ¬ H1.size = o12 := fun e => n12 e.symm
    have c1 : (i : Int) < (n : Int) := by omega
    have hk : ∀ X Y Z, Fr [o12] H (((H1.new X).set H1.size Y).set o12 Z) := fun X Y Z => ((k.new X).set (.inr k.size) Y).set (.inl (by simp)) Z
    generalize E (repB x i) = A at *
    generalize E (repB x (i + 1)) = B' at *
    generalize ((w * i : Nat) : Int) = wA at *
    generalize ((w * (i + 1) : Nat) : Int) = wB at *
    simp (maxDischargeDepth := 20) [hf, e1, e9, e12, f13, ho9, hob, n9, n12, n12', r, hw1, c1, hi', hk]
  · rintro f H1 hf ⟨f13, k, hob⟩
    simp [hf, e1, f13]
    exact ⟨k, hob⟩

set_option maxHeartbeats 8000000 in
theorem repeats_run {w v : Int} (h0 : -9223372036854775808 ≤ w) (h1 : w ≤ 9223372036854775807) {x1 x2 : BitVec 64} {H : AHeap} : R f_plaitlaw1_BvRepeats [.int .i64 w, .int .i64 v, u x1, u x2] H = some (.bool true, H) := by
  obtain ⟨g1, g2⟩ := wid_le w
  obtain ⟨a, ha⟩ := word_of h0 h1 x1 x2
  generalize wid w = m at *
  have hn0 : ¬ (m : Int) = 0 := by omega
  have hn1 : ¬ m = 0 := by omega
  have t1 : (128 : Int).tdiv (m : Int) = ((128 / m : Nat) : Int) := by rw [Int.tdiv_eq_ediv_of_nonneg (by omega)]; rfl
  have hd2 : 128 / m ≤ 128 := Nat.div_le_self _ _
  have hdm : ∀ n : Nat, n ≤ 128 / m → m * n ≤ 128 := fun n h => by rw [Nat.mul_comm, ← Nat.le_div_iff_mul_le g1]; exact h
  generalize 128 / m = dn at *
  have w1 : IntKind.i64.wrap (dn : Int) = (dn : Int) := i64w (by omega) (by omega)
  rw [e_plaitlaw1_BvRepeats]
  by_cases c1 : v < 1
  · simp (maxDischargeDepth := 40) [c_plaitlaw1_BvRepeats, ha, c1]
  by_cases c2 : (dn : Int) < v
  · simp (maxDischargeDepth := 40) [c_plaitlaw1_BvRepeats, ha, c1, c2, hn0, hn1, t1, w1]
  obtain ⟨n, rfl⟩ : ∃ n : Nat, v = (n : Int) := ⟨v.toNat, by omega⟩
  have hnm : m * n ≤ 128 := hdm n (by omega)
  have hn : 1 ≤ n := by omega
  have hn2 : n ≤ 128 := by omega
  have c5 : ¬ dn < n := by omega
  have c3 : ¬ n < 1 := by omega
  have c4 : ¬ n = 0 := by omega
  have r1 := fun H => (repeat_run g1 hnm hn (x := a) (H := H)).run
  obtain ⟨s, hs⟩ : ∃ s, s = m * n := ⟨_, rfl⟩
  have hs1 : 1 ≤ s := by rw [hs]; exact Nat.mul_pos g1 hn
  have r2 := fun H => (rotate_right (w := m * n) (n := m) (by omega) (by omega) rfl rfl rfl rfl (a := repB a n) (H := H)).run
  rw [rot_rep g1 hn rfl (by omega) rfl rfl rfl rfl a (fun i => repB_bit g1 a hnm)] at r2
  simp only [B, Bt] at r1 r2
  have hE1 : E (repB a 1) = E a := by rw [E_repB g1 a (by omega)]; simp [rpt]
  obtain ⟨A, hA⟩ : ∃ A, A = E (repB a n) := ⟨_, rfl⟩
  obtain ⟨W, hW⟩ : ∃ W : Int, W = ((m * n : Nat) : Int) := ⟨_, rfl⟩
  rw [← hA, ← hW] at r1 r2
  simp (maxDischargeDepth := 40) (maxSteps := 1000000) [c_plaitlaw1_BvRepeats, ha, c1, c2, c3, c4, c5, hn0, hn1, t1, w1, r1]
  generalize hL : loopL _ _ _ _ _ _ = q
  obtain ⟨y, e1, H1, rfl, ⟨rfl, k, hob⟩, fr⟩ := law_rep_loop g1 hnm hn hn2 (x := a) (o9 := H.size) (o12 := H.size + 1 + 1) (by omega) hL (by simp) (by simp) (by simp) (by simp [hE1]) (by simp) (by simp) (by simp) (by simp)
  rw [← hA, ← hW] at hob
  have b9 : H1.obj H.size = .cells [.int .i64 m, u (lo (E a)), u (hi (E a))] := by rw [k.obj _ (by simp) (by simp)]; simp
  have b10 : H1.obj (H.size + 1) = .cells [.int .i64 W, u (lo A), u (hi A)] := by rw [k.obj _ (by simp) (by simp)]; simp
  have l9 : H.size < H1.size := k.lt (by simp)
  have l10 : H.size + 1 < H1.size := k.lt (by simp)
  have l12 : H.size + 1 + 1 < H1.size := k.lt (by simp)
  have hK : Keeps H H1 := k.keeps (by simp (maxDischargeDepth := 40)) (by simp)
  have hle : H.size ≤ H1.size := hK.size
  simp (maxDischargeDepth := 40) (maxSteps := 1000000) [fr, b9, b10, hob, l9, l10, l12, hK, hle, r2]
theorem BvRepeats_law {a0 a1 a2 a3 : AV} (y0 : TV Go.Proofs.Try.prog 8 3 a0) (y1 : TV Go.Proofs.Try.prog 8 3 a1) (y2 : TV Go.Proofs.Try.prog 8 22 a2) (y3 : TV Go.Proofs.Try.prog 8 22 a3) : ∃ H', R f_plaitlaw1_BvRepeats [a0, a1, a2, a3] H0 = some (.bool true, H') := by
  obtain ⟨n0, rfl, p0, q0⟩ := tv_int3 y0
  obtain ⟨n1, rfl, p1, q1⟩ := tv_int3 y1
  obtain ⟨x2, rfl⟩ := tv_u22 y2
  obtain ⟨x3, rfl⟩ := tv_u22 y3
  exact ⟨_, repeats_run p0 q0⟩
end Go.Proofs.Ytfjbdlfnoecejaa

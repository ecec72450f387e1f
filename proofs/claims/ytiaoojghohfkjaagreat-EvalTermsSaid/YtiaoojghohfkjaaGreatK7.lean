/- Texts BR6 BR7 BR8 BRQ BRS BRX BRY BRW EX TD TE TF TH TI TL TNL TJ TO EF EG TQ EH EI OC EJ TX TXV of this claim, one behind the other. -/
import Derived.Test.YtiaoojghohfkjaaGreatK6
section
namespace Go.Proofs.YtiaoojghohfkjaaGreat
set_option maxRecDepth 100000
set_option maxHeartbeats 4000000
theorem rsmod_run {w : Nat} (h1 : 1 ≤ w) (hw : w ≤ 128) {x y : BitVec w} {v v' : AV} {H : AHeap} (hv : RB H v (bl x)) (hv' : RB H v' (bl y)) : R Zew [v, v'] H = some (BL (bl (smodB x y)), H) := by
  rw [Zkh]
  obtain ⟨a, ha, ha2⟩ := rsize_run h1 hw hv
  obtain ⟨b, hb, hb2⟩ := rsize_run h1 hw hv'
  have hd := rdiv_run h1 hw ha2 hb2
  have hu : RB H (BL (bl (x.abs % y.abs))) (bl (x.abs % y.abs)) := RB.lst
  have hz := rzero_run hw hu
  have m1 := rminus_run h1 hw hv
  have m2 := rminus_run h1 hw hv'
  have s1 := rsub_run hw hv' hu
  have s2 := radd_run hw (c := false) hu hv'
  have s3 := rneg_run hw hu
  rw [add_cw] at s2
  unfold smodB
  by_cases c : x.abs % y.abs = 0#w
  · rw [decide_eq_true c] at hz
    simp (maxDischargeDepth := 40) [Zg3, ha, hb, hd, hz]
    simp [c]
  · rw [decide_eq_false c] at hz
    cases hm1 : x.msb <;> cases hm2 : y.msb <;> rw [hm1] at m1 <;> rw [hm2] at m2 <;> simp (maxDischargeDepth := 40) [Zg3, ha, hb, hd, hz, m1, m2, s1, s2, s3] <;> simp [c]
def eb (n : Int) (p q : Bool) : Bool := if n = 12 then p && q else if n = 13 then p || q else if n = 14 then p != q else if n = 15 then !(p && q) else if n = 16 then !(p || q) else p == q
theorem each_run {n : Int} {p q : Bool} {H : AHeap} : R Zfw [.int .i64 n, .bool p, .bool q] H = some (.bool (eb n p q), H) := by
  rw [Zkf]
  unfold eb
  by_cases c1 : n = 12
  · subst c1; cases p <;> cases q <;> simp (maxDischargeDepth := 40) [Zdb]
  by_cases c2 : n = 13
  · subst c2; cases p <;> cases q <;> simp (maxDischargeDepth := 40) [Zdb]
  by_cases c3 : n = 14
  · subst c3; cases p <;> cases q <;> simp (maxDischargeDepth := 40) [Zdb]
  by_cases c4 : n = 15
  · subst c4; cases p <;> cases q <;> simp (maxDischargeDepth := 40) [Zdb]
  by_cases c5 : n = 16
  · subst c5; cases p <;> cases q <;> simp (maxDischargeDepth := 40) [Zdb]
  cases p <;> cases q <;> simp (maxDischargeDepth := 40) [Zdb, c1, c2, c3, c4, c5]
theorem rwords_loop {w : Nat} (hw : w ≤ 128) {x y z : BitVec w} {n : Int} (hz : ∀ i, i < w → z.getLsbD i = eb n (x.getLsbD i) (y.getLsbD i)) {v v' : AV} {H0 : AHeap} (hv : RB H0 v (bl x)) (hv' : RB H0 v' (bl y)) {e : Env} {r : Rn} (hL : loopL Tryz.prog KT R Zd1 e (H0.new (.cells (List.replicate w (.bool false)))) = r)
    (e0 : e 0 = some (.int .i64 n)) (e1' : e 1 = some v) (e2' : e 2 = some v') (e8 : e 8 = some (.row H0.size 0 1 w true)) (e9 : e 9 = some (.int .i64 0)) :
    ∃ y e' H', r = some (y, e', H') ∧ (y = .exit 1 ∧ Keeps H0 H' ∧ H0.size < H'.size ∧ H'.obj H0.size = .cells ((bl z).map .bool)) ∧ ∀ t, t ∉ defs Zd1 → e' t = e t := by
  have hl := hv.len
  rw [bl_length] at hl
  have k0 : Keeps H0 (H0.new (.cells (List.replicate w (.bool false)))) := Keeps.new _ _
  obtain ⟨F, F0, Fs, Fl, Fw⟩ := fillsB z
  rw [← Fw]
  refine loop_count Zd1.eq_1 hL w (fun i e1 H1 => e1 9 = some (.int .i64 i) ∧ Upd H0.size (H0.new (.cells (List.replicate w (.bool false)))) H1 ∧ H1.obj H0.size = .cells (F i)) _ 0 (Nat.zero_le _) ⟨e9, Upd.refl _ _, by simp [F0]⟩ ?_ ?_
  · rintro i f H1 hf - hi ⟨f9, k, hob⟩
    have w1 := i64w (n := (i : Int) + 1) (by omega) (by omega)
    have k1 := k.keeps k0 (Nat.le_refl _)
    have a1 := (hv.keep k1).ix (P := Tryz.prog) (t := Zg) (by simp) (i := i) (by simpa using hi)
    have a2 := (hv.keep k1).at (P := Tryz.prog) (t := Zi) (by simp) (i := i) (by simpa using hi)
    have b1 := (hv'.keep k1).ix (P := Tryz.prog) (t := Zg) (by simp) (i := i) (by simpa using hi)
    have b2 := (hv'.keep k1).at (P := Tryz.prog) (t := Zi) (by simp) (i := i) (by simpa using hi)
    rw [bl_getD] at a2 b2
    have hs := Fs i hi
    rw [hz i hi] at hs
    have hFl := Fl i (Nat.le_of_lt hi)
    have ci : (i : Int) < w := by omega
    have lo : H0.size < H1.size := by rw [k.size]; simp
    have hea := fun H => each_run (n := n) (p := x.getLsbD i) (q := y.getLsbD i) (H := H)
    generalize eb n (x.getLsbD i) (y.getLsbD i) = s at *
    generalize x.getLsbD i = p at *
    generalize y.getLsbD i = q at *
    simp (maxDischargeDepth := 40) [hf, e0, e1', e2', e8, f9, hl, hi, ci, a1, a2, b1, b2, hea, hob, hFl, hs, w1]
    exact k.set _
  · rintro f H1 hf ⟨f9, k, hob⟩
    simp [hf, e1', f9, hl]
    exact ⟨k.keeps k0 (Nat.le_refl _), by rw [k.size]; simp, hob⟩
theorem wordV_bit {w : Nat} {n : Int} (h : 12 ≤ n ∧ n ≤ 17) (x y : BitVec w) : ∀ i, i < w → (wordV n x y).getLsbD i = eb n (x.getLsbD i) (y.getLsbD i) := by
  intro i hi
  rcases (show n = 12 ∨ n = 13 ∨ n = 14 ∨ n = 15 ∨ n = 16 ∨ n = 17 by omega) with rfl | rfl | rfl | rfl | rfl | rfl <;> simp only [wordV, eb] <;> simp only [Int.reduceEq, if_true, if_false, BitVec.getLsbD_and, BitVec.getLsbD_or, BitVec.getLsbD_xor, BitVec.getLsbD_not, hi, decide_true, Bool.true_and]
  all_goals cases x.getLsbD i <;> cases y.getLsbD i <;> rfl
theorem amt_shN {w : Nat} (y : BitVec w) : min y.toNat w = shN y := by unfold shN; split <;> omega
theorem back_rt {H H' : AHeap} {o w : Nat} {bs : List Bool} (k : Keeps H H') (ho : H.size ≤ o) (h : H'.obj o = .cells (bs.map .bool)) (hl : bs.length = w) (hlt : o < H'.size) : back [0, 0] H (.tup [.row o 0 1 w true, .bool true]) H' = (.tup [BL bs, .bool true], H) := by
  have hf := frz_rb (H := H) (RB.row (full := true) hlt h hl.symm) (by simp) (by simpa using ho)
  have he : frz H' H.size [0, 0] (.tup [.row o 0 1 w true, .bool true]) = .tup [BL bs, .bool true] := by rw [frz_tup]; simp only [List.map_cons, List.map_nil, hf]; simp [frz]
  rw [back_cons (by rw [he]; simp [closed, closedL]) k.shut, cut_keeps k, he]
theorem rwords_run {w : Nat} (h1 : 1 ≤ w) (hw : w ≤ 128) {x y : BitVec w} {v v' : AV} {H : AHeap} (hv : RB H v (bl x)) (hv' : RB H v' (bl y)) {n : Int} : R Zds [.int .i64 n, v, v'] H = some (if 12 ≤ n ∧ n ≤ 28 then .tup [BL (bl (wordV n x y)), .bool true] else .tup [.nils, .bool false], H) := by
  generalize h : R Zds _ H = r
  rw [Zjv] at h
  have hl := hv.len
  rw [bl_length] at hl
  have cc1 : (w : Int) ≤ 140737488355328 := by omega
  have cc2 : (w : Int) ≤ 9223372036854775807 := by omega
  by_cases hb : 12 ≤ n ∧ n ≤ 17
  · have hz := wordV_bit hb x y
    rw [if_pos (by omega)]
    generalize wordV n x y = z at *
    rcases (show n = 12 ∨ n = 13 ∨ n = 14 ∨ n = 15 ∨ n = 16 ∨ n = 17 by omega) with rfl | rfl | rfl | rfl | rfl | rfl
    all_goals
      simp (maxDischargeDepth := 40) [Z7, hl, cc1, cc2] at h
      generalize hL : loopL _ _ _ _ _ _ = q at h
      obtain ⟨yy, e1, H1, rfl, ⟨rfl, k1, z1, ob1⟩, fr⟩ := rwords_loop hw hz hv hv' hL (by simp) (by simp) (by simp) (by simp) (by simp)
      simp (maxDischargeDepth := 40) [fr] at h
      rw [back_rt k1 (Nat.le_refl _) ob1 (by simp) z1] at h
      exact h.symm
  have n1 : ¬ n = 12 := by omega
  have n2 : ¬ n = 13 := by omega
  have n3 : ¬ n = 14 := by omega
  have n4 : ¬ n = 15 := by omega
  have n5 : ¬ n = 16 := by omega
  have n6 : ¬ n = 17 := by omega
  by_cases hc : 18 ≤ n ∧ n ≤ 28
  rotate_left
  · rw [if_neg (by omega)]
    have m1 : ¬ n = 18 := by omega
    have m2 : ¬ n = 19 := by omega
    have m3 : ¬ n = 20 := by omega
    have m4 : ¬ n = 21 := by omega
    have m5 : ¬ n = 22 := by omega
    have m6 : ¬ n = 23 := by omega
    have m7 : ¬ n = 24 := by omega
    have m8 : ¬ n = 25 := by omega
    have m9 : ¬ n = 26 := by omega
    have m10 : ¬ n = 27 := by omega
    have m11 : ¬ n = 28 := by omega
    simp (maxDischargeDepth := 40) [Z7, n1, n2, n3, n4, n5, n6, m1, m2, m3, m4, m5, m6, m7, m8, m9, m10, m11, frz, closed, closedL] at h
    exact h.symm
  rw [if_pos (by omega)]
  obtain ⟨a, ha, ha2⟩ := rsize_run h1 hw hv
  obtain ⟨b, hb', hb2⟩ := rsize_run h1 hw hv'
  have hd2 := rdiv_run h1 hw ha2 hb2
  have hm1 := rminus_run h1 hw hv
  have hm2 := rminus_run h1 hw hv'
  have ham := ramount_run hw hv'
  rw [amt_shN] at ham
  have hsh := shN_le y
  clear hb n1 n2 n3 n4 n5 n6
  rcases (show n = 18 ∨ n = 19 ∨ n = 20 ∨ n = 21 ∨ n = 22 ∨ n = 23 ∨ n = 24 ∨ n = 25 ∨ n = 26 ∨ n = 27 ∨ n = 28 by omega) with rfl | rfl | rfl | rfl | rfl | rfl | rfl | rfl | rfl | rfl | rfl
  · have := radd_run hw (c := false) hv hv'
    rw [add_cw] at this
    simp (maxDischargeDepth := 40) [Z7, this] at h
    rw [← h]; simp [wordV]
  · have := rsub_run hw hv hv'
    simp (maxDischargeDepth := 40) [Z7, this] at h
    rw [← h]; simp [wordV]
  · have := rmul_run h1 hw hv hv'
    simp (maxDischargeDepth := 40) [Z7, this] at h
    rw [← h]; simp [wordV]
  · have := rdiv_run h1 hw hv hv'
    simp (maxDischargeDepth := 40) [Z7, this] at h
    rw [← h]; simp [wordV]
  · have := rdiv_run h1 hw hv hv'
    simp (maxDischargeDepth := 40) [Z7, this] at h
    rw [← h]; simp [wordV]
  · have hng := rneg_run hw (x := qB x.abs y.abs) (H := H) RB.lst
    cases d1 : x.msb <;> cases d2 : y.msb <;> rw [d1] at hm1 <;> rw [d2] at hm2 <;> simp (maxDischargeDepth := 40) [Z7, ha, hb', hd2, hm1, hm2, hng] at h <;> rw [← h] <;> simp [wordV, sdivB, d1, d2]
  · have hng := rneg_run hw (x := x.abs % y.abs) (H := H) RB.lst
    cases d1 : x.msb <;> rw [d1] at hm1 <;> simp (maxDischargeDepth := 40) [Z7, ha, hb', hd2, hm1, hng] at h <;> rw [← h] <;> simp [wordV, sremB, d1]
  · have := rsmod_run h1 hw hv hv'
    simp (maxDischargeDepth := 40) [Z7, this] at h
    rw [← h]; simp [wordV]
  · simp (maxDischargeDepth := 40) [Z7, ham] at h
    generalize hU : R Zcz _ _ = qq at h
    obtain ⟨H2, rfl, k2, s2, ob2⟩ := rup_run hw (n := shN y) (by omega) hv hU
    simp (maxDischargeDepth := 40) at h
    rw [back_rt k2 (Nat.le_refl _) ob2 (by simp) (by omega)] at h
    rw [← h]; simp [wordV]
  · have := rdown_run hw (n := shN y) (by omega) (fill := false) hv
    rw [dnL_lshr] at this
    simp (maxDischargeDepth := 40) [Z7, ham, this] at h
    rw [← h]; simp [wordV]
  · have := rdown_run hw (n := shN y) (by omega) (fill := x.msb) hv
    rw [dnL_ashr] at this
    simp (maxDischargeDepth := 40) [Z7, ham, hm1, this] at h
    rw [← h]; simp [wordV]
end Go.Proofs.YtiaoojghohfkjaaGreat
end
section
namespace Go.Proofs.YtiaoojghohfkjaaGreat
set_option maxRecDepth 100000
set_option maxHeartbeats 4000000
theorem refword_run {w : Int} {l h : BitVec 64} {H : AHeap} : R Zbh [.agg [.int .i64 w, u l, u h]] H = some (.bool (isWd w l h), H) := by
  rw [Zke]
  have r := fun H => rightR_run (w := w) (l := l) (h := h) (H := H)
  unfold isWd
  cases hr : rightF w l h with
  | false => rw [hr] at r; simp (maxDischargeDepth := 40) [Zfx, r]
  | true =>
    rw [hr] at r
    have hw : 0 ≤ w := by
      unfold rightF at hr
      split at hr
      · omega
      · simp only [Bool.and_eq_true, decide_eq_true_eq] at hr; omega
    by_cases c : w = 0
    · subst c; simp (maxDischargeDepth := 40) [Zfx, r]
    · have c' : 0 < w := by omega
      simp (maxDischargeDepth := 40) [Zfx, r, c, c']
theorem refbool_run {b : Bool} {H : AHeap} : R Z9 [.bool b] H = some (Bt 0 (if b = true then 1#128 else 0#128), H) := by
  rw [Zkc]
  cases b <;> simp (maxDischargeDepth := 9) [Zib, Bt, show lo (1#128) = 1#64 from rfl, show hi (1#128) = 0#64 from rfl, show hi (0#128 : W128) = 0#64 from rfl, show lo (0#128 : W128) = 0#64 from rfl]
theorem zeroB : Bt 0 0#128 = .agg [.int .i64 0, u 0#64, u 0#64] := by
  simp [Bt, show hi (0#128 : W128) = 0#64 from rfl, show lo (0#128 : W128) = 0#64 from rfl]
theorem bvtwo_bad {n w w' : Int} {l h l' h' : BitVec 64} (hb : isWd w l h = false ∨ isWd w' l' h' = false ∨ ¬ w = w') {H : AHeap} : R Zhm [.int .i64 n, .agg [.int .i64 w, u l, u h], .agg [.int .i64 w', u l', u h']] H = some (.tup [Bt 0 0#128, .int .i64 10], H) := by
  rw [Zmt, zeroB]
  have r1 := fun H => bvword_run (w := w) (l := l) (h := h) (H := H)
  have r2 := fun H => bvword_run (w := w') (l := l') (h := h') (H := H)
  cases h1 : isWd w l h with
  | false => rw [h1] at r1; simp (maxDischargeDepth := 40) [Zfn, r1]
  | true =>
    rw [h1] at r1
    cases h2 : isWd w' l' h' with
    | false => rw [h2] at r2; simp (maxDischargeDepth := 40) [Zfn, r1, r2]
    | true =>
      rw [h2] at r2
      have hn : ¬ w = w' := by
        rcases hb with hb | hb | hb
        · rw [h1] at hb; cases hb
        · rw [h2] at hb; cases hb
        · exact hb
      simp (maxDischargeDepth := 40) [Zfn, r1, r2, hn]
theorem reftwo_bad {n w w' : Int} {l h l' h' : BitVec 64} (hb : isWd w l h = false ∨ isWd w' l' h' = false ∨ ¬ w = w') {H : AHeap} : R Zc1 [.int .i64 n, .agg [.int .i64 w, u l, u h], .agg [.int .i64 w', u l', u h']] H = some (.tup [Bt 0 0#128, .int .i64 10], H) := by
  rw [Zil, zeroB]
  have r1 := fun H => refword_run (w := w) (l := l) (h := h) (H := H)
  have r2 := fun H => refword_run (w := w') (l := l') (h := h') (H := H)
  cases h1 : isWd w l h with
  | false => rw [h1] at r1; simp (maxDischargeDepth := 40) [Zca, r1]
  | true =>
    rw [h1] at r1
    cases h2 : isWd w' l' h' with
    | false => rw [h2] at r2; simp (maxDischargeDepth := 40) [Zca, r1, r2]
    | true =>
      rw [h2] at r2
      have hn : ¬ w = w' := by
        rcases hb with hb | hb | hb
        · rw [h1] at hb; cases hb
        · rw [h2] at hb; cases hb
        · exact hb
      simp (maxDischargeDepth := 40) [Zca, r1, r2, hn]
theorem bvone_bad {n w : Int} {l h : BitVec 64} (hb : isWd w l h = false) {H : AHeap} : R Zhl [.int .i64 n, .agg [.int .i64 w, u l, u h]] H = some (.tup [Bt 0 0#128, .int .i64 10], H) := by
  rw [Zms, zeroB]
  have r1 := fun H => bvword_run (w := w) (l := l) (h := h) (H := H)
  rw [hb] at r1
  simp (maxDischargeDepth := 40) [Zjd, r1]
theorem refone_bad {n w : Int} {l h : BitVec 64} (hb : isWd w l h = false) {H : AHeap} : R Zdu [.int .i64 n, .agg [.int .i64 w, u l, u h]] H = some (.tup [Bt 0 0#128, .int .i64 10], H) := by
  rw [Zik, zeroB]
  have r1 := fun H => refword_run (w := w) (l := l) (h := h) (H := H)
  rw [hb] at r1
  simp (maxDischargeDepth := 40) [Zfi, r1]
theorem wordBL {w : Nat} (hw : w ≤ 128) (z : BitVec w) (H : AHeap) : R Z0 [BL (bl z)] H = some (.agg [.int .i64 w, u (lo (E z)), u (hi (E z))], H) := by
  have := (wordR_run (RB.lst (H := H) (bs := bl z)) (by simpa using hw)).run
  rw [bl_length, wv_bl hw] at this
  exact this
theorem bitsB_run {w : Nat} (hw : w ≤ 128) (x : BitVec w) (H : AHeap) : ∃ H', R Z4 [.agg [.int .i64 w, u (lo (E x)), u (hi (E x))]] H = some (.row (H.size + 1) 0 1 w true, H') ∧ Keeps H H' ∧ H'.size = H.size + 2 ∧ RB H' (.row (H.size + 1) 0 1 w true) (bl x) := by
  obtain ⟨H', g1, g2, g3, g4⟩ := (bits_run hw (x := E x) (H := H)).ex
  rw [bn_E hw] at g4
  exact ⟨H', g1, g2, g3, RB.row (by omega) g4 (by simp)⟩
theorem refone_run {w : Nat} (h1 : 1 ≤ w) (hw : w ≤ 128) {n : Int} {a : BitVec w} {H : AHeap} : R Zdu [.int .i64 n, .agg [.int .i64 w, u (lo (E a)), u (hi (E a))]] H = some (.tup [oneF n a, .int .i64 (if n = 10 ∨ n = 11 then 0 else 11)], H) := by
  rw [Zik]
  have r1 := fun H => refword_run (w := w) (l := lo (E a)) (h := hi (E a)) (H := H)
  rw [isWd_B h1 hw a] at r1
  obtain ⟨H1, hb, kb, sb, rb⟩ := bitsB_run hw a ((H.new (.cells [.int .i64 w, u (lo (E a)), u (hi (E a))])).new (.cells [.int .i64 0, u 0#64, u 0#64]))
  have k1 : Keeps H H1 := ((Keeps.new _ _).trans (Keeps.new _ _)).trans kb
  have o1 : H1.obj (H.size + 1) = .cells [.int .i64 0, u 0#64, u 0#64] := by rw [kb.obj _ (by simp)]; simp
  simp only [new_size] at hb rb sb
  have z1 : H.size + 1 < H1.size := by omega
  have k2 : ∀ X, Keeps H (H1.set (H.size + 1) X) := fun X => k1.set (Nat.le_succ _) X
  by_cases c1 : n = 10
  · subst c1
    have hn := rnot_run hw rb
    have hwd := wordBL hw (~~~a)
    simp (maxDischargeDepth := 40) [Zfi, r1, hb, hn, hwd, o1, k2, oneF, B, Bt]
  by_cases c2 : n = 11
  · subst c2
    have hn := rneg_run hw rb
    have hwd := wordBL hw (-a)
    simp (maxDischargeDepth := 40) [Zfi, r1, hb, hn, hwd, o1, k2, oneF, B, Bt]
  · simp (maxDischargeDepth := 40) [Zfi, r1, c1, c2, oneF, zeroB]
end Go.Proofs.YtiaoojghohfkjaaGreat
end
section
namespace Go.Proofs.YtiaoojghohfkjaaGreat
set_option maxRecDepth 100000
set_option maxHeartbeats 4000000
theorem reftwo_run {w : Nat} (h1 : 1 ≤ w) (hw : w ≤ 128) {n : Int} {a b : BitVec w} {H : AHeap} : R Zc1 [.int .i64 n, .agg [.int .i64 w, u (lo (E a)), u (hi (E a))], .agg [.int .i64 w, u (lo (E b)), u (hi (E b))]] H = some (.tup [twoF n a b, .int .i64 (twoE n)], H) := by
  rw [Zil]
  have r1 := fun H => refword_run (w := w) (l := lo (E a)) (h := hi (E a)) (H := H)
  have r2 := fun H => refword_run (w := w) (l := lo (E b)) (h := hi (E b)) (H := H)
  rw [isWd_B h1 hw a] at r1
  rw [isWd_B h1 hw b] at r2
  obtain ⟨H1, hb1, kb1, sb1, rb1⟩ := bitsB_run hw a (((H.new (.cells [.int .i64 w, u (lo (E a)), u (hi (E a))])).new (.cells [.int .i64 w, u (lo (E b)), u (hi (E b))])).new (.cells [.int .i64 0, u 0#64, u 0#64]))
  obtain ⟨H2, hb2, kb2, sb2, rb2⟩ := bitsB_run hw b H1
  have ke : Keeps H (((H.new (.cells [.int .i64 w, u (lo (E a)), u (hi (E a))])).new (.cells [.int .i64 w, u (lo (E b)), u (hi (E b))])).new (.cells [.int .i64 0, u 0#64, u 0#64])) := ((Keeps.new _ _).trans (Keeps.new _ _)).trans (Keeps.new _ _)
  have k2 : Keeps H H2 := (ke.trans kb1).trans kb2
  have kbb := kb1.trans kb2
  have o1b : H1.obj (H.size + 1) = .cells [.int .i64 w, u (lo (E b)), u (hi (E b))] := by rw [kb1.obj _ (by simp)]; simp
  have o2a : H2.obj H.size = .cells [.int .i64 w, u (lo (E a)), u (hi (E a))] := by rw [kbb.obj _ (by simp)]; simp
  have o2b : H2.obj (H.size + 1) = .cells [.int .i64 w, u (lo (E b)), u (hi (E b))] := by rw [kbb.obj _ (by simp)]; simp
  have o2z : H2.obj (H.size + 2) = .cells [.int .i64 0, u 0#64, u 0#64] := by rw [kbb.obj _ (by simp)]; simp
  simp only [new_size] at hb1 rb1 sb1
  rw [sb1] at hb2 rb2 sb2
  have rb1' := rb1.keep kb2
  have z2 : H.size + 2 < H2.size := by omega
  have kX : ∀ X, Keeps H (H2.set (H.size + 2) X) := fun X => k2.set (by omega) X
  have hws := rwords_run h1 hw rb1' rb2 (n := n)
  by_cases c1 : 12 ≤ n ∧ n ≤ 28
  · rw [if_pos c1] at hws
    have hwd := wordBL hw (wordV n a b) H2
    have he : twoE n = 0 := by unfold twoE; rw [if_pos (by omega)]
    rw [twoF_word hw c1, he]
    simp (maxDischargeDepth := 40) [Zca, r1, r2, hb1, hb2, kb1, kb2, o1b, hws, hwd, o2z, kX, B, Bt]
  rw [if_neg c1] at hws
  have hbo := fun b H => refbool_run (b := b) (H := H)
  simp only [Bt] at hbo
  by_cases c2 : 29 ≤ n ∧ n ≤ 32
  · have hc := cmpF_cn h1 hw n a b
    rw [if_neg (by omega)] at hc
    have he : twoE n = 0 := by unfold twoE; rw [if_pos (by omega)]
    have hf : twoF n a b = BB (cn n a b) := by
      unfold twoF
      rw [if_neg (by omega), if_neg (by omega), if_neg (by omega), if_pos (by omega), hc]
    have hl1 := rbelow_run hw rb1' rb2
    have hl2 := rbelow_run hw rb2 rb1'
    rw [hf, he]
    unfold cn BB Bt
    rcases (show n = 29 ∨ n = 30 ∨ n = 31 ∨ n = 32 by omega) with rfl | rfl | rfl | rfl
    all_goals
      generalize decide (a < b) = p at *
      generalize decide (b < a) = q at *
      cases p <;> cases q <;> simp (maxDischargeDepth := 40) [Zca, r1, r2, hb1, hb2, kb1, kb2, o1b, hws, hl1, hl2, hbo, o2z, kX]
  by_cases c3 : 33 ≤ n ∧ n ≤ 36
  · have hc := cmpF_cn h1 hw n a b
    rw [if_pos (by omega)] at hc
    have he : twoE n = 0 := by unfold twoE; rw [if_pos (by omega)]
    have hf : twoF n a b = BB (cn n (a ^^^ BitVec.twoPow w (w - 1)) (b ^^^ BitVec.twoPow w (w - 1))) := by
      unfold twoF
      rw [if_neg (by omega), if_neg (by omega), if_neg (by omega), if_pos (by omega), hc]
    have t1 := rturned_run h1 hw rb1'
    have t2 := rturned_run h1 hw rb2
    have hl1 := rbelow_run hw (H := H2) (x := a ^^^ BitVec.twoPow w (w - 1)) (y := b ^^^ BitVec.twoPow w (w - 1)) RB.lst RB.lst
    have hl2 := rbelow_run hw (H := H2) (x := b ^^^ BitVec.twoPow w (w - 1)) (y := a ^^^ BitVec.twoPow w (w - 1)) RB.lst RB.lst
    rw [hf, he]
    unfold cn BB Bt
    generalize a ^^^ BitVec.twoPow w (w - 1) = a' at *
    generalize b ^^^ BitVec.twoPow w (w - 1) = b' at *
    rcases (show n = 33 ∨ n = 34 ∨ n = 35 ∨ n = 36 by omega) with rfl | rfl | rfl | rfl
    all_goals
      generalize decide (a' < b') = p at *
      generalize decide (b' < a') = q at *
      cases p <;> cases q <;> simp (maxDischargeDepth := 40) [Zca, r1, r2, hb1, hb2, kb1, kb2, o1b, hws, t1, t2, hl1, hl2, hbo, o2z, kX]
  have n1 : ¬ n = 29 := by omega
  have n2 : ¬ n = 30 := by omega
  have n3 : ¬ n = 31 := by omega
  have n4 : ¬ n = 32 := by omega
  have n5 : ¬ n = 33 := by omega
  have n6 : ¬ n = 34 := by omega
  have n7 : ¬ n = 35 := by omega
  have n8 : ¬ n = 36 := by omega
  have hpd := pair_dec (E a) (E b)
  have hee : decide (E a = E b) = decide (a = b) := by rw [decide_eq_decide]; exact E_iff hw a b
  rw [hee] at hpd
  by_cases c4 : n = 8
  · subst c4
    have he : twoE 8 = 0 := rfl
    rw [two_eq, he]
    unfold BB Bt
    generalize decide (a = b) = p at *
    cases p <;> simp (maxDischargeDepth := 40) [Zca, r1, r2, hb1, hb2, kb1, kb2, o1b, o2a, o2b, hws, hpd, hbo, o2z, kX]
  by_cases c5 : n = 37
  · subst c5
    have he : twoE 37 = 0 := rfl
    rw [two_comp, he]
    have hwd : ∀ p, R Z0 [.row H2.size 0 1 1 true] (H2.new (.cells [.bool p])) = some (.agg [.int .i64 1, u (lo (E (if p = true then 1#1 else 0#1))), u (hi (E (if p = true then 1#1 else 0#1)))], H2.new (.cells [.bool p])) := fun p => by
      have := (wordR_run (H := H2.new (.cells [.bool p])) (v := .row H2.size 0 1 1 true) (bs := bl (if p = true then 1#1 else 0#1)) (RB.row (by simp) (by simp; cases p <;> simp [bl]) (by simp)) (by simp)).run
      rw [wv_bl (by omega)] at this
      simpa [Bt] using this
    rw [show (if a = b then 1#1 else 0#1) = if decide (a = b) = true then 1#1 else 0#1 from by simp only [decide_eq_true_eq]]
    have z3 : H.size + 2 < H2.size + 1 := by omega
    have z4 : ¬ H.size + 2 = H2.size := by omega
    have kY : ∀ c X, Keeps H ((H2.new c).set (H.size + 2) X) := fun c X => (k2.new' c).set (by omega) X
    unfold B Bt
    generalize decide (a = b) = p at *
    have hwp := hwd p
    generalize (if p = true then 1#1 else 0#1) = zz at *
    simp (maxDischargeDepth := 40) [Zca, r1, r2, hb1, hb2, kb1, kb2, o1b, o2a, o2b, hws, hpd, hwp, o2z, z4, kY]
  · have he : twoE n = 11 := by unfold twoE; rw [if_neg (by omega)]
    have hf : twoF n a b = Bt 0 0#128 := by
      unfold twoF
      rw [if_neg (by omega), if_neg (by omega), if_neg (by omega), if_neg (by omega), if_neg c4, if_neg c5]
    rw [he, hf, zeroB]
    simp (maxDischargeDepth := 40) [Zca, r1, r2, hb1, hb2, kb1, kb2, o1b, hws, n1, n2, n3, n4, n5, n6, n7, n8, c4, c5, k2, o2z]
end Go.Proofs.YtiaoojghohfkjaaGreat
end
section
namespace Go.Proofs.YtiaoojghohfkjaaGreat
set_option maxRecDepth 100000
set_option maxHeartbeats 4000000
theorem Bt_shape (m : Nat) (x : W128) : ∃ (k : Int) (p q : BitVec 64), Bt m x = .agg [.int .i64 k, u p, u q] := ⟨_, _, _, rfl⟩
theorem twoF_shape {w : Nat} (n : Int) (a b : BitVec w) : ∃ (k : Int) (p q : BitVec 64), twoF n a b = .agg [.int .i64 k, u p, u q] := by
  unfold twoF BB B
  repeat' split
  all_goals exact Bt_shape _ _
theorem oneF_shape {w : Nat} (n : Int) (a : BitVec w) : ∃ (k : Int) (p q : BitVec 64), oneF n a = .agg [.int .i64 k, u p, u q] := by
  unfold oneF B
  repeat' split
  all_goals exact Bt_shape _ _
theorem two_same (n w w' : Int) (l h l' h' : BitVec 64) : ∃ (k : Int) (p q : BitVec 64) (e : Int), (∀ H, R Zhm [.int .i64 n, .agg [.int .i64 w, u l, u h], .agg [.int .i64 w', u l', u h']] H = some (.tup [.agg [.int .i64 k, u p, u q], .int .i64 e], H)) ∧ ∀ H, R Zc1 [.int .i64 n, .agg [.int .i64 w, u l, u h], .agg [.int .i64 w', u l', u h']] H = some (.tup [.agg [.int .i64 k, u p, u q], .int .i64 e], H) := by
  by_cases hb : isWd w l h = true ∧ isWd w' l' h' = true ∧ w = w'
  · obtain ⟨h1, h2, rfl⟩ := hb
    obtain ⟨m, x, m1, m2, e0, rfl, rfl⟩ := isWd_word h1
    obtain ⟨m', y, m1', m2', e0', rfl, rfl⟩ := isWd_word h2
    have : m' = m := by omega
    subst this
    subst e0
    obtain ⟨k, p, q, hs⟩ := twoF_shape n x y
    refine ⟨k, p, q, twoE n, fun H => ?_, fun H => ?_⟩
    · rw [← hs]; exact (two_run m1 m2).run
    · rw [← hs]; exact reftwo_run m1 m2
  · have hb' : isWd w l h = false ∨ isWd w' l' h' = false ∨ ¬ w = w' := by
      cases h1 : isWd w l h
      · exact .inl rfl
      · cases h2 : isWd w' l' h'
        · exact .inr (.inl rfl)
        · exact .inr (.inr fun e => hb ⟨h1, h2, e⟩)
    obtain ⟨k, p, q, hs⟩ := Bt_shape 0 0#128
    exact ⟨k, p, q, 10, fun H => by rw [← hs]; exact bvtwo_bad hb', fun H => by rw [← hs]; exact reftwo_bad hb'⟩
theorem one_same (n w : Int) (l h : BitVec 64) : ∃ (k : Int) (p q : BitVec 64) (e : Int), (∀ H, R Zhl [.int .i64 n, .agg [.int .i64 w, u l, u h]] H = some (.tup [.agg [.int .i64 k, u p, u q], .int .i64 e], H)) ∧ ∀ H, R Zdu [.int .i64 n, .agg [.int .i64 w, u l, u h]] H = some (.tup [.agg [.int .i64 k, u p, u q], .int .i64 e], H) := by
  cases h1 : isWd w l h with
  | true =>
    obtain ⟨m, x, m1, m2, rfl, rfl, rfl⟩ := isWd_word h1
    obtain ⟨k, p, q, hs⟩ := oneF_shape n x
    refine ⟨k, p, q, if n = 10 ∨ n = 11 then 0 else 11, fun H => ?_, fun H => ?_⟩
    · rw [← hs]; exact (one_run m1 m2).run
    · rw [← hs]; exact refone_run m1 m2
  | false =>
    obtain ⟨k, p, q, hs⟩ := Bt_shape 0 0#128
    exact ⟨k, p, q, 10, fun H => by rw [← hs]; exact bvone_bad h1, fun H => by rw [← hs]; exact refone_bad h1⟩
end Go.Proofs.YtiaoojghohfkjaaGreat
end
section
namespace Go.Proofs.YtiaoojghohfkjaaGreat
set_option maxRecDepth 100000
set_option maxHeartbeats 4000000
theorem wv_eq {s : Nat} {bs : List Bool} (hl : bs.length = s) (hs : s ≤ 128) {z : W128} (h : ∀ i, i < s → bs.getD i false = z.getLsbD i) : wv bs = E (z.setWidth s) := by
  apply BitVec.eq_of_getLsbD_eq
  intro i hi
  rw [wv_bit, E_bit hs, BitVec.getLsbD_setWidth]
  by_cases c : i < s
  · rw [h i c]; simp [hi, c]
  · have : bs.getD i false = false := by rw [List.getD_eq_getElem?_getD, List.getElem?_eq_none (by omega)]; rfl
    rw [this]; simp [c]
theorem wordL {s : Nat} {bs : List Bool} {v : AV} {H : AHeap} (hv : RB H v bs) (hl : bs.length = s) (hs : s ≤ 128) {z : W128} (h : ∀ i, i < s → bs.getD i false = z.getLsbD i) : R Z0 [v] H = some (.agg [.int .i64 s, u (lo (E (z.setWidth s))), u (hi (E (z.setWidth s)))], H) := by
  have := (wordR_run hv (by omega)).run
  rw [wv_eq hl hs h, hl] at this
  exact this
theorem RB.lt {H : AHeap} {v : AV} {bs : List Bool} (h : RB H v bs) : ∀ p, p ∈ objs v → p < H.size := fun _ hp => Reads.lt h hp
theorem appB {H : AHeap} {v w : AV} {bs cs : List Bool} {r : Option (AV × AHeap)} (hA : appU H v w (some (1, 1, [.bool false])) = r) (hv : RB H v bs) (hg : grows v) (hw : RB H w cs) (hm : 0 < cs.length) (hl : bs.length + cs.length ≤ 100000) :
    ∃ H', r = some (.row H.size 0 1 (bs.length + cs.length) false, H') ∧ Fr (objs v) H H' ∧ H'.size = H.size + 1 ∧ RB H' (.row H.size 0 1 (bs.length + cs.length) false) (bs ++ cs) := by
  obtain ⟨H1, rfl, f1, s1, oo, -⟩ := app_of hA hv hg hw hm rfl (by omega) (by omega) (by omega) (allOne_bits _)
  exact ⟨H1, rfl, f1, s1, RB.row (by omega) (by rw [oo, List.map_append]) (by simp)⟩
theorem bitsV_run {w : Nat} (hw : w ≤ 128) (x : BitVec w) (H : AHeap) : ∃ v H', R Z4 [.agg [.int .i64 w, u (lo (E x)), u (hi (E x))]] H = some (v, H') ∧ Keeps H H' ∧ H'.size = H.size + 2 ∧ RB H' v (bl x) ∧ grows v ∧ ∀ p, p ∈ objs v → H.size < p := by
  obtain ⟨H', h1, h2, h3, h4⟩ := bitsB_run hw x H
  exact ⟨_, H', h1, h2, h3, h4, by simp, by simp⟩
theorem concat_same (w w' : Int) (l h l' h' : BitVec 64) : ∃ (k : Int) (p q : BitVec 64) (e : Int), (∀ H, R Zeq [.agg [.int .i64 w, u l, u h], .agg [.int .i64 w', u l', u h']] H = some (.tup [.agg [.int .i64 k, u p, u q], .int .i64 e], H)) ∧ ∀ H, R Zc4 [.agg [.int .i64 w, u l, u h], .agg [.int .i64 w', u l', u h']] H = some (.tup [.agg [.int .i64 k, u p, u q], .int .i64 e], H) := by
  have r1 := fun H => bvword_run (w := w) (l := l) (h := h) (H := H)
  have r2 := fun H => refword_run (w := w) (l := l) (h := h) (H := H)
  have s1 := fun H => bvword_run (w := w') (l := l') (h := h') (H := H)
  have s2 := fun H => refword_run (w := w') (l := l') (h := h') (H := H)
  cases h1 : isWd w l h with
  | false =>
    rw [h1] at r1 r2
    refine ⟨0, 0#64, 0#64, 10, fun H => ?_, fun H => ?_⟩
    · rw [Zh3]; simp (maxDischargeDepth := 40) [Zhd, r1]
    · rw [Zfa]; simp (maxDischargeDepth := 40) [Zef, r2]
  | true =>
    rw [h1] at r1 r2
    cases h2 : isWd w' l' h' with
    | false =>
      rw [h2] at s1 s2
      refine ⟨0, 0#64, 0#64, 10, fun H => ?_, fun H => ?_⟩
      · rw [Zh3]; simp (maxDischargeDepth := 40) [Zhd, r1, s1]
      · rw [Zfa]; simp (maxDischargeDepth := 40) [Zef, r2, s2]
    | true =>
      rw [h2] at s1 s2
      obtain ⟨m, x, m1, m2, rfl, rfl, rfl⟩ := isWd_word h1
      obtain ⟨n, y, n1, n2, rfl, rfl, rfl⟩ := isWd_word h2
      have w1 : IntKind.i64.wrap ((m : Int) + (n : Int)) = (m : Int) + (n : Int) := i64w (by omega) (by omega)
      by_cases c : 128 < m + n
      · have c' : 128 < (m : Int) + (n : Int) := by omega
        refine ⟨0, 0#64, 0#64, 10, fun H => ?_, fun H => ?_⟩
        · rw [Zh3]; simp (maxDischargeDepth := 40) [Zhd, r1, s1, w1, c']
        · rw [Zfa]; simp (maxDischargeDepth := 40) [Zef, r2, s2, w1, c']
      · have c' : ¬ 128 < (m : Int) + (n : Int) := by omega
        have hmn : m + n ≤ 128 := by omega
        refine ⟨(m + n : Nat), lo (E ((E x <<< n ||| E y).setWidth (m + n))), hi (E ((E x <<< n ||| E y).setWidth (m + n))), 0, fun H => ?_, fun H => ?_⟩
        · exact (concat_run m1 n1 rfl hmn).run
        · rw [Zfa]
          obtain ⟨v1, H1, hb1, kb1, sb1, rb1, gr1, nv1⟩ := bitsV_run n2 y (((H.new (.cells [.int .i64 m, u (lo (E x)), u (hi (E x))])).new (.cells [.int .i64 n, u (lo (E y)), u (hi (E y))])).new (.cells [.int .i64 0, u 0#64, u 0#64]))
          obtain ⟨v2, H2, hb2, kb2, sb2, rb2, -, -⟩ := bitsV_run m2 x H1
          have ke : Keeps H (((H.new (.cells [.int .i64 m, u (lo (E x)), u (hi (E x))])).new (.cells [.int .i64 n, u (lo (E y)), u (hi (E y))])).new (.cells [.int .i64 0, u 0#64, u 0#64])) := ((Keeps.new _ _).trans (Keeps.new _ _)).trans (Keeps.new _ _)
          have k2 : Keeps H H2 := (ke.trans kb1).trans kb2
          have kbb := kb1.trans kb2
          have o1b : H1.obj H.size = .cells [.int .i64 m, u (lo (E x)), u (hi (E x))] := by rw [kb1.obj _ (by simp)]; simp
          have o2z : H2.obj (H.size + 2) = .cells [.int .i64 0, u 0#64, u 0#64] := by rw [kbb.obj _ (by simp)]; simp
          have z2 : H.size + 2 < H2.size := by simp only [new_size] at sb1; omega
          have rb1' := rb1.keep kb2
          generalize hA : appU H2 v1 v2 (some (1, 1, [.bool false])) = q
          have hA0 := hA
          obtain ⟨H3, rfl, f3, s3, rb3⟩ := appB hA rb1' gr1 rb2 (by simp; omega) (by simp; omega)
          simp only [new_size] at nv1
          have k3 : Keeps H H3 := f3.keeps k2 (fun p hp => by have := nv1 p hp; omega)
          have o3z : H3.obj (H.size + 2) = .cells [.int .i64 0, u 0#64, u 0#64] := by rw [f3.obj _ z2 (fun hp => by have := nv1 _ hp; omega)]; exact o2z
          have hwd := wordL rb3 (s := m + n) (by simp; omega) hmn (z := E x <<< n ||| E y) (fun i hi => by
            rw [BitVec.getLsbD_or, BitVec.getLsbD_shiftLeft, List.getD_eq_getElem?_getD, List.getElem?_append]
            by_cases c : i < n
            · rw [if_pos (by simpa using c), ← List.getD_eq_getElem?_getD, bl_getD, E_bit n2]; simp [c]
            · rw [if_neg (by simpa using c), ← List.getD_eq_getElem?_getD, bl_getD, E_bit n2, E_bit m2, bl_length, BitVec.getLsbD_of_ge y i (by omega)]
              have : i < 128 := by omega
              simp [c, this])
          have z3 : H.size + 2 < H3.size := by omega
          have kX : ∀ X, Keeps H (H3.set (H.size + 2) X) := fun X => k3.set (by omega) X
          generalize (AV.row H2.size 0 1 ((bl y).length + (bl x).length) false) = v3 at *
          generalize E ((E x <<< n ||| E y).setWidth (m + n)) = zz at *
          simp (maxDischargeDepth := 40) (maxSteps := 300000) [Zef, r2, s2, w1, c', hb1, hb2, kb1, kb2, o1b, hA0, hwd, o3z, z3, kX]
end Go.Proofs.YtiaoojghohfkjaaGreat
end
section
namespace Go.Proofs.YtiaoojghohfkjaaGreat
set_option maxRecDepth 100000
set_option maxHeartbeats 2000000
theorem aslice_row {P : Program} {H : AHeap} {t : TypeId} {sz o off n : Nat} {full : Bool} (h : eszS P t = some sz) {l k : Nat} (hlk : l ≤ k) (hkn : k ≤ n) : aslice P H t (.row o off sz n full) (some (.int .i64 (l : Int))) (some (.int .i64 (k : Int))) none = some (.row o (off + l * sz) sz (k - l) (full && decide ((k : Int) = n))) := by
  have h2 : (l : Int) ≤ k := by omega
  have h3 : (k : Int) ≤ n := by omega
  have h4 : ((k : Int) - l).toNat = k - l := by omega
  unfold eszS at h
  unfold aslice
  cases hu : P.underlying t with
  | none => rw [hu] at h; cases h
  | some d =>
    rw [hu] at h
    cases d <;> first | (cases h; done) | skip
    simp only at h
    simp [h, h2, h3, h4]
theorem extract_same (w i j : Int) (l h : BitVec 64) : ∃ (k : Int) (p q : BitVec 64) (e : Int), (∀ H, R Zf3 [.agg [.int .i64 w, u l, u h], .int .i64 i, .int .i64 j] H = some (.tup [.agg [.int .i64 k, u p, u q], .int .i64 e], H)) ∧ ∀ H, R Zdv [.agg [.int .i64 w, u l, u h], .int .i64 i, .int .i64 j] H = some (.tup [.agg [.int .i64 k, u p, u q], .int .i64 e], H) := by
  have r1 := fun H => bvword_run (w := w) (l := l) (h := h) (H := H)
  have r2 := fun H => refword_run (w := w) (l := l) (h := h) (H := H)
  cases h1 : isWd w l h with
  | false =>
    rw [h1] at r1 r2
    refine ⟨0, 0#64, 0#64, 10, fun H => ?_, fun H => ?_⟩
    · rw [Zgr]; simp (maxDischargeDepth := 40) [Zf6, r1]
    · rw [Zdz]; simp (maxDischargeDepth := 40) [Zcw, r2]
  | true =>
    rw [h1] at r1 r2
    obtain ⟨m, x, m1, m2, rfl, rfl, rfl⟩ := isWd_word h1
    by_cases c1 : j < 0
    · refine ⟨0, 0#64, 0#64, 12, fun H => ?_, fun H => ?_⟩
      · rw [Zgr]; simp (maxDischargeDepth := 40) [Zf6, r1, c1]
      · rw [Zdz]; simp (maxDischargeDepth := 40) [Zcw, r2, c1]
    by_cases c2 : i < j
    · refine ⟨0, 0#64, 0#64, 12, fun H => ?_, fun H => ?_⟩
      · rw [Zgr]; simp (maxDischargeDepth := 40) [Zf6, r1, c1, c2]
      · rw [Zdz]; simp (maxDischargeDepth := 40) [Zcw, r2, c1, c2]
    by_cases c3 : (m : Int) ≤ i
    · refine ⟨0, 0#64, 0#64, 12, fun H => ?_, fun H => ?_⟩
      · rw [Zgr]; simp (maxDischargeDepth := 40) [Zf6, r1, c1, c2, c3]
      · rw [Zdz]; simp (maxDischargeDepth := 40) [Zcw, r2, c1, c2, c3]
    obtain ⟨b, rfl⟩ := Int.eq_ofNat_of_zero_le (show 0 ≤ j by omega)
    obtain ⟨d, rfl⟩ : ∃ d : Nat, i = ((b + d : Nat) : Int) := ⟨(i - b).toNat, by omega⟩
    have hbd : b + d < m := by omega
    refine ⟨(d + 1 : Nat), lo (E ((E x >>> b).setWidth (d + 1))), hi (E ((E x >>> b).setWidth (d + 1))), 0, fun H => ?_, fun H => ?_⟩
    · exact (extract_run m1 m2 rfl hbd rfl).run
    · rw [Zdz]
      obtain ⟨H1, hb1, kb1, sb1, rb1⟩ := bitsB_run m2 x ((H.new (.cells [.int .i64 m, u (lo (E x)), u (hi (E x))])).new (.cells [.int .i64 0, u 0#64, u 0#64]))
      have k1 : Keeps H H1 := ((Keeps.new _ _).trans (Keeps.new _ _)).trans kb1
      have o1z : H1.obj (H.size + 1) = .cells [.int .i64 0, u 0#64, u 0#64] := by rw [kb1.obj _ (by simp)]; simp
      simp only [new_size] at hb1 rb1 sb1
      have w1 : IntKind.i64.wrap (((b + d : Nat) : Int) + 1) = ((b + d : Nat) : Int) + 1 := i64w (by omega) (by omega)
      have hsl := aslice_row (P := Tryz.prog) (H := H1) (t := Zg) (sz := 1) (o := H.size + 1 + 1 + 1) (off := 0) (n := m) (full := true) (by simp) (l := b) (k := b + d + 1) (by omega) (by omega)
      have e1 : ((b + d + 1 : Nat) : Int) = ((b + d : Nat) : Int) + 1 := by omega
      have e2 : b + d + 1 - b = d + 1 := by omega
      rw [e1, e2] at hsl
      have hrow : RB H1 (.row (H.size + 1 + 1 + 1) (0 + b * 1) 1 (d + 1) (true && decide (((b + d : Nat) : Int) + 1 = (m : Int)))) (((bl x).drop b).take (d + 1)) := by
        have h4 := rb1.own
        have h2 := rb1.cells
        unfold sliceCells at h2
        simp only at h2
        split at h2 <;> first | (cases h2; done) | skip
        rename_i all hob
        split at h2 <;> first | (cases h2; done) | skip
        rename_i hle
        simp only [Option.some.injEq] at h2
        have := Reads.row (full := (true && decide (((b + d : Nat) : Int) + 1 = (m : Int)))) (off := 0 + b * 1) (n := d + 1) (sz := 1) h4.2 hob (by omega)
        unfold RB
        have hl : (((bl x).drop b).take (d + 1)).length = d + 1 := by simp; omega
        rw [hl]
        have hc : (((bl x).drop b).take (d + 1)).map AV.bool = (all.drop (0 + b * 1)).take ((d + 1) * 1) := by
          rw [List.map_take, List.map_drop, ← h2]
          simp only [List.drop_zero, Nat.mul_one, Nat.zero_add]
          rw [List.drop_take, List.take_take, Nat.min_eq_left (by omega)]
        rw [hc]; exact this
      have hwd := wordL hrow (s := d + 1) (by simp; omega) (by omega) (z := E x >>> b) (fun i hi => by
        rw [BitVec.getLsbD_ushiftRight, E_bit m2, List.getD_eq_getElem?_getD, List.getElem?_take, if_pos hi, List.getElem?_drop, ← List.getD_eq_getElem?_getD, bl_getD])
      generalize (AV.row (H.size + 1 + 1 + 1) (0 + b * 1) 1 (d + 1) (true && decide (((b + d : Nat) : Int) + 1 = (m : Int)))) = sv at *
      generalize hi : ((b + d : Nat) : Int) = I at *
      have z1 : H.size + 1 < H1.size := by omega
      have kX : ∀ X, Keeps H (H1.set (H.size + 1) X) := fun X => k1.set (by omega) X
      generalize E ((E x >>> b).setWidth (d + 1)) = zz at *
      simp (maxDischargeDepth := 40) (maxSteps := 300000) [Zcw, r2, c1, c2, c3, w1, hb1, hsl, hwd, o1z, z1, kX]
theorem rext_loop {H : AHeap} {v : AV} {w n : Nat} {bs : List Bool} {fill : Bool} (hv : RB H v bs) (hg : grows v) (hl : bs.length = w) (hm : w + n ≤ 1000) {B0 : Nat} (hB : B0 ≤ H.size) (ho : ∀ p, p ∈ objs v → B0 < p) {e : Env} {r : Rn} (hL : loopL Tryz.prog KT R Zdd e H = r)
    (e1' : e 1 = some (.int .i64 n)) (e8 : e 8 = some v) (e9 : e 9 = some (.bool fill)) :
    ∃ y e' H', r = some (y, e', H') ∧ (y = .exit 0 ∧ H.size ≤ H'.size ∧ (∀ p, p ≤ B0 → p < H.size → H'.obj p = H.obj p) ∧ (∀ A, Keeps A H → A.size ≤ B0 → Keeps A H') ∧ ∃ u, e' 8 = some u ∧ RB H' u (bs ++ List.replicate n fill)) ∧ ∀ t, t ∉ defs Zdd → e' t = e t := by
  refine loop_rule Zdd.eq_1 hL (fun m e1 H1 => m ≤ n ∧ e1 1 = some (.int .i64 m) ∧ H.size ≤ H1.size ∧ (∀ p, p ≤ B0 → p < H.size → H1.obj p = H.obj p) ∧ (∀ A, Keeps A H → A.size ≤ B0 → Keeps A H1) ∧ ∃ u, e1 8 = some u ∧ RB H1 u (bs ++ List.replicate (n - m) fill) ∧ grows u ∧ ∀ p, p ∈ objs u → B0 < p) _ n ⟨Nat.le_refl _, e1', Nat.le_refl _, fun _ _ _ => rfl, fun _ k _ => k, v, e8, by simpa using hv, hg, ho⟩ ?_
  rintro m f H1 hf ⟨hmn, f1, z1, ob1, kA, u, f8, hu, gu, nu⟩
  cases m with
  | zero =>
    simp [f1]
    exact ⟨z1, ob1, kA, u, f8, by simpa using hu⟩
  | succ m =>
    have w1 : IntKind.i64.wrap (m : Int) = (m : Int) := i64w (by omega) (by omega)
    have e1i : ((m : Int) + 1 - 1) = (m : Int) := by omega
    have p1 : (0 : Int) < (m : Int) + 1 := by omega
    simp (maxDischargeDepth := 40) [hf, e9, f1, f8, p1]
    generalize hA : appU _ _ _ _ = q
    have hr : RB (H1.new (.cells [.bool fill])) (.row H1.size 0 1 1 true) [fill] := RB.row (by simp) (by simp) (by simp)
    obtain ⟨H2, rfl, f2, s2, rb2⟩ := appB hA (hu.new _) gu hr (by simp) (by simp; omega)
    simp only [new_size] at s2 rb2
    have hls : (bs ++ List.replicate (n - (m + 1)) fill).length + 1 = w + (n - m) := by simp; omega
    have hls2 : bs ++ List.replicate (n - (m + 1)) fill ++ [fill] = bs ++ List.replicate (n - m) fill := by
      rw [List.append_assoc, show n - m = (n - (m + 1)) + 1 from by omega, List.replicate_succ']
    rw [hls2] at rb2
    simp (maxDischargeDepth := 40) [f1, e1i, w1]
    refine ⟨m, by omega, by omega, rfl, by omega, fun p hp hp2 => ?_, fun A k hk => ?_, ?_, by omega⟩
    · rw [f2.obj p (by simp; omega) (fun hh => by have := nu p hh; omega)]
      rw [(Keeps.new H1 _).obj p (by omega)]; exact ob1 p hp hp2
    · exact f2.keeps ((kA A k hk).new' _) (fun p hp => by have := nu p hp; omega)
    · simpa using rb2
theorem extend_same (w n : Int) (sg : Bool) (l h : BitVec 64) : ∃ (k : Int) (p q : BitVec 64) (e : Int), (∀ H, R Zgi [.agg [.int .i64 w, u l, u h], .int .i64 n, .bool sg] H = some (.tup [.agg [.int .i64 k, u p, u q], .int .i64 e], H)) ∧ ∀ H, R Zc5 [.agg [.int .i64 w, u l, u h], .int .i64 n, .bool sg] H = some (.tup [.agg [.int .i64 k, u p, u q], .int .i64 e], H) := by
  have r1 := fun H => bvword_run (w := w) (l := l) (h := h) (H := H)
  have r2 := fun H => refword_run (w := w) (l := l) (h := h) (H := H)
  cases h1 : isWd w l h with
  | false =>
    rw [h1] at r1 r2
    refine ⟨0, 0#64, 0#64, 10, fun H => ?_, fun H => ?_⟩
    · rw [Zh4]; simp (maxDischargeDepth := 40) [Zhe, r1]
    · rw [Zfb]; simp (maxDischargeDepth := 40) [Zc7, r2]
  | true =>
    rw [h1] at r1 r2
    obtain ⟨m, x, m1, m2, rfl, rfl, rfl⟩ := isWd_word h1
    by_cases c1 : n < 0
    · refine ⟨0, 0#64, 0#64, 12, fun H => ?_, fun H => ?_⟩
      · rw [Zh4]; simp (maxDischargeDepth := 40) [Zhe, r1, c1]
      · rw [Zfb]; simp (maxDischargeDepth := 40) [Zc7, r2, c1]
    have w1 : IntKind.i64.wrap (128 - (m : Int)) = 128 - (m : Int) := i64w (by omega) (by omega)
    by_cases c2 : 128 - (m : Int) < n
    · refine ⟨0, 0#64, 0#64, 10, fun H => ?_, fun H => ?_⟩
      · rw [Zh4]; simp (maxDischargeDepth := 40) [Zhe, r1, c1, w1, c2]
      · rw [Zfb]; simp (maxDischargeDepth := 40) [Zc7, r2, c1, w1, c2]
    obtain ⟨n, rfl⟩ := Int.eq_ofNat_of_zero_le (show 0 ≤ n by omega)
    have hmn : m + n ≤ 128 := by omega
    obtain ⟨z, hz⟩ : ∃ z, z = (if (sg && x.msb) = true then E x ||| ~~~maskN m else E x) := ⟨_, rfl⟩
    have hbits : ∀ i, i < m + n → (bl x ++ List.replicate n (sg && x.msb)).getD i false = z.getLsbD i := fun i hi => by
      rw [hz, List.getD_eq_getElem?_getD, List.getElem?_append]
      have h128 : i < 128 := by omega
      by_cases c : i < m
      · rw [if_pos (by simpa using c), ← List.getD_eq_getElem?_getD, bl_getD]
        split
        · rw [BitVec.getLsbD_or, BitVec.getLsbD_not, maskN_bit m i m2, E_bit m2]; simp [c]
        · rw [E_bit m2]
      · rw [if_neg (by simpa using c), bl_length, List.getElem?_replicate, if_pos (by omega)]
        split
        · rename_i hs
          rw [BitVec.getLsbD_or, BitVec.getLsbD_not, maskN_bit m i m2, hs]; simp [c, h128]
        · rename_i hs
          rw [E_bit m2, BitVec.getLsbD_of_ge x i (by omega)]; simpa using hs
    refine ⟨(m + n : Nat), lo (E (z.setWidth (m + n))), hi (E (z.setWidth (m + n))), 0, fun H => ?_, fun H => ?_⟩
    · rw [hz]; exact (extend_run m1 rfl hmn).run
    · generalize hr : R Zc5 _ H = r
      rw [Zfb] at hr
      obtain ⟨v1, H1, hb1, kb1, sb1, rb1, gr1, nv1⟩ := bitsV_run m2 x ((H.new (.cells [.int .i64 m, u (lo (E x)), u (hi (E x))])).new (.cells [.int .i64 0, u 0#64, u 0#64]))
      have k1 : Keeps H H1 := ((Keeps.new _ _).trans (Keeps.new _ _)).trans kb1
      have o1z : H1.obj (H.size + 1) = .cells [.int .i64 0, u 0#64, u 0#64] := by rw [kb1.obj _ (by simp)]; simp
      simp only [new_size] at sb1 nv1
      have hmin := rminus_run m1 m2 rb1
      generalize hms : x.msb = ms at *
      cases sg with
      | false =>
        simp (maxDischargeDepth := 40) (maxSteps := 300000) [Zc7, r2, c1, c2, w1, hb1] at hr
        generalize hL : loopL _ _ _ _ _ _ = q at hr
        obtain ⟨y, e1, H2, rfl, ⟨rfl, z2, ob2, kA, uu, e8, hu⟩, fr⟩ := rext_loop (B0 := H.size + 2) (n := n) (fill := false) rb1 gr1 (w := m) (by simp) (by omega) (by omega) (fun p hp => by have := nv1 p hp; omega) hL (by simp) (by simp) (by simp)
        have hwd := wordL hu (s := m + n) (by simp) hmn hbits
        have o2z : H2.obj (H.size + 1) = .cells [.int .i64 0, u 0#64, u 0#64] := (ob2 _ (by omega) (by omega)).trans o1z
        have k2 := kA H k1 (by omega)
        have z3 : H.size + 1 < H2.size := by omega
        have kX : ∀ X, Keeps H (H2.set (H.size + 1) X) := fun X => k2.set (by omega) X
        generalize E (z.setWidth (m + n)) = zz at *
        simp (maxDischargeDepth := 40) (maxSteps := 300000) [fr, e8, hwd, o2z, z3, kX] at hr
        rw [← hr]; simp
      | true =>
        simp (maxDischargeDepth := 40) (maxSteps := 300000) [Zc7, r2, c1, c2, w1, hb1, hmin] at hr
        generalize hL : loopL _ _ _ _ _ _ = q at hr
        obtain ⟨y, e1, H2, rfl, ⟨rfl, z2, ob2, kA, uu, e8, hu⟩, fr⟩ := rext_loop (B0 := H.size + 2) (n := n) (fill := ms) rb1 gr1 (w := m) (by simp) (by omega) (by omega) (fun p hp => by have := nv1 p hp; omega) hL (by simp) (by simp) (by simp)
        have hwd := wordL hu (s := m + n) (by simp) hmn (by simpa using hbits)
        have o2z : H2.obj (H.size + 1) = .cells [.int .i64 0, u 0#64, u 0#64] := (ob2 _ (by omega) (by omega)).trans o1z
        have k2 := kA H k1 (by omega)
        have z3 : H.size + 1 < H2.size := by omega
        have kX : ∀ X, Keeps H (H2.set (H.size + 1) X) := fun X => k2.set (by omega) X
        generalize E (z.setWidth (m + n)) = zz at *
        simp (maxDischargeDepth := 40) (maxSteps := 300000) [fr, e8, hwd, o2z, z3, kX] at hr
        rw [← hr]; simp
end Go.Proofs.YtiaoojghohfkjaaGreat
end
section
namespace Go.Proofs.YtiaoojghohfkjaaGreat
set_option maxRecDepth 100000
set_option maxHeartbeats 2000000
def src (w k j : Nat) : Nat := if j < k then j + w - k else j - k
def RL {w : Nat} (x : BitVec w) (k i : Nat) : List AV := (List.range w).map fun j => .bool (decide (src w k j < i) && x.getLsbD (src w k j))
theorem RL_len {w : Nat} (x : BitVec w) (k i : Nat) : (RL x k i).length = w := by simp [RL]
theorem RL_zero {w : Nat} (x : BitVec w) (k : Nat) : RL x k 0 = List.replicate w (.bool false) := by
  apply List.ext_getElem (by simp [RL])
  intro i h1 h2
  simp [RL]
theorem RL_step {w : Nat} (x : BitVec w) {k i : Nat} (hk : k ≤ w) (hi : i < w) : (RL x k i).set (if i + k < w then i + k else i + k - w) (.bool (x.getLsbD i)) = RL x k (i + 1) := by
  apply List.ext_getElem (by simp [RL])
  intro j h1 h2
  have hj : j < w := by simpa [RL] using h2
  rw [List.getElem_set]
  simp only [RL, List.getElem_map, List.getElem_range]
  by_cases e : src w k j = i
  · have : (if i + k < w then i + k else i + k - w) = j := by
      unfold src at e; split at e <;> split <;> omega
    rw [if_pos this, e]; simp
  · have : ¬ (if i + k < w then i + k else i + k - w) = j := by
      unfold src at e; split at e <;> split <;> omega
    rw [if_neg this]
    have : (src w k j < i + 1) ↔ (src w k j < i) := by omega
    simp [this]
def rotL {w : Nat} (x : BitVec w) (k : Nat) : List Bool := (List.range w).map fun j => x.getLsbD (src w k j)
theorem RL_all {w : Nat} (x : BitVec w) {k : Nat} (hk : k ≤ w) : RL x k w = (rotL x k).map .bool := by
  unfold RL rotL
  rw [List.map_map]
  apply List.map_congr_left
  intro j hj
  simp only [List.mem_range] at hj
  have : src w k j < w := by unfold src; split <;> omega
  simp [this]
theorem rrot_loop {w : Nat} (hw : w ≤ 128) {x : BitVec w} {k : Nat} (hk : k ≤ w) {v : AV} {H : AHeap} {o p : Nat} (hv : ∀ H', Upd o H H' → RB H' v (bl x)) (hob : H.obj o = .cells (List.replicate w (.bool false))) (lo' : o < H.size) (hp : ∀ H', Upd o H H' → ∃ a b, H'.obj p = .cells [.int .i64 w, a, b]) {e : Env} {r : Rn} (hL : loopL Tryz.prog KT R Zb3 e H = r)
    (e1' : e 1 = some (.int .i64 k)) (e3 : e 3 = some (.ptr p 0)) (e8 : e 8 = some v) (e9 : e 9 = some (.row o 0 1 w true)) (e10 : e 10 = some (.int .i64 0)) :
    ∃ y e' H', r = some (y, e', H') ∧ (y = .exit 0 ∧ Upd o H H' ∧ H'.obj o = .cells ((rotL x k).map .bool)) ∧ ∀ t, t ∉ defs Zb3 → e' t = e t := by
  rw [← RL_all x hk]
  refine loop_count Zb3.eq_1 hL w (fun i e1 H1 => e1 10 = some (.int .i64 i) ∧ Upd o H H1 ∧ H1.obj o = .cells (RL x k i)) _ 0 (Nat.zero_le _) ⟨e10, Upd.refl _ _, by rw [RL_zero]; exact hob⟩ ?_ ?_
  · rintro i f H1 hf - hi ⟨f10, k1, ob⟩
    have w1 := i64w (n := (i : Int) + 1) (by omega) (by omega)
    have w2 := i64w (n := (i : Int) + k) (by omega) (by omega)
    have hv1 := hv H1 k1
    have hl := hv1.len
    rw [bl_length] at hl
    obtain ⟨a, b, hpo⟩ := hp H1 k1
    have a1 := hv1.ix (P := Tryz.prog) (t := Zg) (by simp) (i := i) (by simpa using hi)
    have a2 := hv1.at (P := Tryz.prog) (t := Zi) (by simp) (i := i) (by simpa using hi)
    rw [bl_getD] at a2
    have hs := RL_step x hk hi
    have hlen := RL_len x k i
    have ci : (i : Int) < w := by omega
    have lo1 : o < H1.size := by rw [k1.size]; exact lo'
    have wn : ¬ w = 0 := by omega
    have hd : ((i : Int) + k).tmod (w : Int) = ((if i + k < w then i + k else i + k - w : Nat) : Int) := by
      rw [Int.tmod_eq_emod_of_nonneg (by omega)]
      split
      · rw [Int.emod_eq_of_lt (by omega) (by omega)]; omega
      · rw [show (i : Int) + k = (i + k - w : Nat) + (w : Int) from by omega, Int.add_emod_right, Int.emod_eq_of_lt (by omega) (by omega)]
    have hdl : (if i + k < w then i + k else i + k - w) < w := by split <;> omega
    generalize (if i + k < w then i + k else i + k - w) = dd at *
    have cd : (dd : Int) < w := by omega
    generalize x.getLsbD i = bit at *
    simp (maxDischargeDepth := 40) (maxSteps := 300000) [hf, e1', e3, e8, e9, f10, hl, hi, ci, a1, a2, hpo, ob, w1, w2, hd, hdl, cd, wn, hlen, hs, lo1]
    exact k1.set _
  · rintro f H1 hf ⟨f10, k1, ob⟩
    have hl := (hv H1 k1).len
    rw [bl_length] at hl
    simp [hf, e8, f10, hl]
    exact ⟨k1, ob⟩
theorem rot_bits {w : Nat} (hw : w ≤ 128) (x : BitVec w) {k : Nat} (hk : k ≤ w) : ∀ i, i < w → (rotL x k).getD i false = (E x <<< k ||| E x >>> (w - k)).getLsbD i := fun i hi => by
  have : (rotL x k).getD i false = x.getLsbD (src w k i) := by simp [rotL, hi]
  rw [this, BitVec.getLsbD_or, BitVec.getLsbD_shiftLeft, BitVec.getLsbD_ushiftRight, E_bit hw, E_bit hw]
  have h128 : i < 128 := by omega
  unfold src
  by_cases c : i < k
  · rw [if_pos c]; simp [c]; congr 1; omega
  · rw [if_neg c, BitVec.getLsbD_of_ge x (w - k + i) (by omega)]; simp [c, h128]
theorem rotate_same (w n : Int) (lf : Bool) (l h : BitVec 64) : ∃ (k : Int) (p q : BitVec 64) (e : Int), (∀ H, R Zfg [.agg [.int .i64 w, u l, u h], .int .i64 n, .bool lf] H = some (.tup [.agg [.int .i64 k, u p, u q], .int .i64 e], H)) ∧ ∀ H, R Zci [.agg [.int .i64 w, u l, u h], .int .i64 n, .bool lf] H = some (.tup [.agg [.int .i64 k, u p, u q], .int .i64 e], H) := by
  have r1 := fun H => bvword_run (w := w) (l := l) (h := h) (H := H)
  have r2 := fun H => refword_run (w := w) (l := l) (h := h) (H := H)
  cases h1 : isWd w l h with
  | false =>
    rw [h1] at r1 r2
    refine ⟨0, 0#64, 0#64, 10, fun H => ?_, fun H => ?_⟩
    · rw [Zh5]; simp (maxDischargeDepth := 40) [Zhf, r1]
    · rw [Zgc]; simp (maxDischargeDepth := 40) [Zeg, r2]
  | true =>
    rw [h1] at r1 r2
    obtain ⟨m, x, m1, m2, rfl, rfl, rfl⟩ := isWd_word h1
    by_cases c1 : n < 0
    · refine ⟨0, 0#64, 0#64, 12, fun H => ?_, fun H => ?_⟩
      · rw [Zh5]; simp (maxDischargeDepth := 40) [Zhf, r1, c1]
      · rw [Zgc]; simp (maxDischargeDepth := 40) [Zeg, r2, c1]
    obtain ⟨n, rfl⟩ := Int.eq_ofNat_of_zero_le (show 0 ≤ n by omega)
    have hmod : n % m < m := Nat.mod_lt _ (by omega)
    have t1 : ((n : Int)).tmod (m : Int) = ((n % m : Nat) : Int) := by rw [Int.tmod_eq_emod_of_nonneg (by omega)]; rfl
    have w2 : IntKind.i64.wrap ((n % m : Nat) : Int) = ((n % m : Nat) : Int) := i64w (by omega) (by omega)
    have w3 : IntKind.i64.wrap ((m : Int) - (n % m : Nat)) = ((m - n % m : Nat) : Int) := by rw [i64w (by omega) (by omega)]; omega
    have cm : (m : Int) ≤ 140737488355328 := by omega
    have cm2 : (m : Int) ≤ 9223372036854775807 := by omega
    have m0 : ¬ m = 0 := by omega
    have c1' : ¬ (n : Int) < 0 := c1
    -- the document's way, turned by k
    have main : ∀ (k : Nat) (H : AHeap), k ≤ m → ((lf = true ∧ k = n % m) ∨ (lf = false ∧ k = m - n % m)) → R Zci [.agg [.int .i64 m, u (lo (E x)), u (hi (E x))], .int .i64 n, .bool lf] H = some (.tup [.agg [.int .i64 m, u (lo (E ((E x <<< k ||| E x >>> (m - k)).setWidth m))), u (hi (E ((E x <<< k ||| E x >>> (m - k)).setWidth m)))], .int .i64 0], H) := fun k H hk hlf => by
      generalize n % m = nm at *
      generalize hr : R Zci _ H = r
      rw [Zgc] at hr
      obtain ⟨v1, H1, hb1, kb1, sb1, rb1, gr1, nv1⟩ := bitsV_run m2 x ((H.new (.cells [.int .i64 m, u (lo (E x)), u (hi (E x))])).new (.cells [.int .i64 0, u 0#64, u 0#64]))
      have k1 : Keeps H H1 := ((Keeps.new _ _).trans (Keeps.new _ _)).trans kb1
      have o1a : H1.obj H.size = .cells [.int .i64 m, u (lo (E x)), u (hi (E x))] := by rw [kb1.obj _ (by simp)]; simp
      have o1z : H1.obj (H.size + 1) = .cells [.int .i64 0, u 0#64, u 0#64] := by rw [kb1.obj _ (by simp)]; simp
      simp only [new_size] at sb1
      have hl := rb1.len
      rw [bl_length] at hl
      have kN : Keeps H1 (H1.new (.cells (List.replicate m (.bool false)))) := Keeps.new _ _
      have hbit := rot_bits m2 x hk
      have fin : ∀ (e : Env) (q : Rn), loopL Tryz.prog KT R Zb3 e (H1.new (.cells (List.replicate m (.bool false)))) = q → e 1 = some (.int .i64 k) → e 3 = some (.ptr H.size 0) → e 8 = some v1 → e 9 = some (.row H1.size 0 1 m true) → e 10 = some (.int .i64 0) →
          ∃ e' H2, q = some (.exit 0, e', H2) ∧ (∀ t, t ∉ defs Zb3 → e' t = e t) ∧ H2.obj (H.size + 1) = .cells [.int .i64 0, u 0#64, u 0#64] ∧ H.size + 1 < H2.size ∧ (∀ X, Keeps H (H2.set (H.size + 1) X)) ∧ R Z0 [.row H1.size 0 1 m true] H2 = some (.agg [.int .i64 m, u (lo (E ((E x <<< k ||| E x >>> (m - k)).setWidth m))), u (hi (E ((E x <<< k ||| E x >>> (m - k)).setWidth m)))], H2) := fun e q hL e1' e3 e8 e9 e10 => by
        obtain ⟨y, e', H2, rfl, ⟨rfl, ku, ob2⟩, fr⟩ := rrot_loop m2 (x := x) hk (v := v1) (o := H1.size) (p := H.size) (fun H' ku => rb1.keep (ku.keeps kN (Nat.le_refl _))) (by simp) (by simp) (fun H' ku => ⟨_, _, by rw [ku.obj _ (by omega), kN.obj _ (by omega)]; exact o1a⟩) hL e1' e3 e8 e9 e10
        have k2 : Keeps H H2 := k1.trans (ku.keeps kN (Nat.le_refl _))
        refine ⟨e', H2, rfl, fr, by rw [ku.obj _ (by omega), kN.obj _ (by omega)]; exact o1z, by rw [ku.size]; simp; omega, fun X => k2.set (by omega) X, ?_⟩
        exact wordL (RB.row (o := H1.size) (n := m) (full := true) (bs := rotL x k) (by rw [ku.size]; simp) ob2 (by simp [rotL])) (by simp [rotL]) m2 hbit
      generalize E ((E x <<< k ||| E x >>> (m - k)).setWidth m) = zz at *
      rcases hlf with ⟨rfl, rfl⟩ | ⟨rfl, rfl⟩
      · simp (maxDischargeDepth := 40) (maxSteps := 300000) [Zeg, r2, c1', t1, w2, m0, hb1, hl, cm, cm2] at hr
        generalize hL : loopL _ _ _ _ _ _ = q at hr
        obtain ⟨e', H2, rfl, fr, o2z, z2, kX, hwd⟩ := fin _ _ hL (by simp) (by simp) (by simp) (by simp) (by simp)
        simp (maxDischargeDepth := 40) (maxSteps := 300000) [fr, hwd, o2z, z2, kX] at hr
        exact hr.symm
      · simp (maxDischargeDepth := 40) (maxSteps := 300000) [Zeg, r2, c1', t1, w2, w3, m0, o1a, hb1, hl, cm, cm2] at hr
        generalize hL : loopL _ _ _ _ _ _ = q at hr
        obtain ⟨e', H2, rfl, fr, o2z, z2, kX, hwd⟩ := fin _ _ hL (by simp) (by simp) (by simp) (by simp) (by simp)
        simp (maxDischargeDepth := 40) (maxSteps := 300000) [fr, hwd, o2z, z2, kX] at hr
        exact hr.symm
    cases lf with
    | true => exact ⟨_, _, _, _, fun H => (rotate_left m1 m2 rfl rfl).run, fun H => main (n % m) H (by omega) (.inl ⟨rfl, rfl⟩)⟩
    | false =>
      refine ⟨_, _, _, _, fun H => (rotate_right m1 m2 rfl rfl rfl rfl).run, fun H => ?_⟩
      have := main (m - n % m) H (by omega) (.inr ⟨rfl, rfl⟩)
      rw [this]
      have he : (E x <<< (m - n % m) ||| E x >>> (m - (m - n % m))).setWidth m = (E x <<< ((m - n % m) % m) ||| E x >>> (m - (m - n % m) % m)).setWidth m := by
        apply BitVec.eq_of_getLsbD_eq
        intro i hi
        rw [BitVec.getLsbD_setWidth, BitVec.getLsbD_setWidth, ← rot_bits m2 x (by omega) i hi, ← rot_bits m2 x (Nat.le_of_lt (Nat.mod_lt _ (by omega))) i hi]
        congr 1
        simp only [rotL, List.getD_eq_getElem?_getD]
        by_cases c : n % m = 0
        · have e2 : (m - n % m) % m = 0 := by rw [c, Nat.sub_zero, Nat.mod_self]
          simp [c, hi, src]
        · rw [Nat.mod_eq_of_lt (by omega : m - n % m < m)]
      rw [he]
end Go.Proofs.YtiaoojghohfkjaaGreat
end
section
namespace Go.Proofs.YtiaoojghohfkjaaGreat
set_option maxRecDepth 100000
set_option maxHeartbeats 2000000
def repL {w : Nat} (x : BitVec w) : Nat → List Bool
  | 0 => []
  | n + 1 => repL x n ++ bl x
theorem repL_len {w : Nat} (x : BitVec w) : ∀ n, (repL x n).length = w * n
  | 0 => rfl
  | n + 1 => by rw [repL, List.length_append, repL_len x n, bl_length, Nat.mul_succ]
theorem repL_bit {w : Nat} (x : BitVec w) : ∀ n i, i < w * n → (repL x n).getD i false = x.getLsbD (i % w)
  | 0, i, h => by simp at h
  | n + 1, i, h => by
    rw [repL, List.getD_eq_getElem?_getD, List.getElem?_append, repL_len]
    by_cases c : i < w * n
    · rw [if_pos c, ← List.getD_eq_getElem?_getD, repL_bit x n i c]
    · rw [if_neg c, ← List.getD_eq_getElem?_getD, bl_getD]
      have h2 : i - w * n < w := by rw [Nat.mul_succ] at h; omega
      have : i % w = i - w * n := by
        rw [show i = (i - w * n) + w * n from by omega, Nat.add_mul_mod_self_left, Nat.mod_eq_of_lt h2]; omega
      rw [this]
theorem rrep_loop {H : AHeap} {w n : Nat} (h1 : 1 ≤ w) (hw : w ≤ 128) (hn : w * n ≤ 128) (hn2 : n ≤ 128) {x : BitVec w} {p B0 : Nat} (hB : B0 ≤ H.size) (hp : p < B0) (op : H.obj p = .cells [.int .i64 w, u (lo (E x)), u (hi (E x))]) {e : Env} {r : Rn} (hL : loopL Tryz.prog KT R Zde e H = r)
    (e1' : e 1 = some (.int .i64 n)) (e2 : e 2 = some (.ptr p 0)) (e6 : e 6 = some .nils) :
    ∃ y e' H', r = some (y, e', H') ∧ (y = .exit 0 ∧ H.size ≤ H'.size ∧ (∀ q, q < B0 → H'.obj q = H.obj q) ∧ (∀ A, Keeps A H → A.size ≤ B0 → Keeps A H') ∧ ∃ v, e' 6 = some v ∧ RB H' v (repL x n)) ∧ ∀ t, t ∉ defs Zde → e' t = e t := by
  refine loop_rule Zde.eq_1 hL (fun m e1 H1 => m ≤ n ∧ e1 1 = some (.int .i64 m) ∧ H.size ≤ H1.size ∧ (∀ q, q < B0 → H1.obj q = H.obj q) ∧ (∀ A, Keeps A H → A.size ≤ B0 → Keeps A H1) ∧ ∃ v, e1 6 = some v ∧ RB H1 v (repL x (n - m)) ∧ grows v ∧ ∀ q, q ∈ objs v → B0 ≤ q) _ n ⟨Nat.le_refl _, e1', Nat.le_refl _, fun _ _ => rfl, fun _ k _ => k, .nils, e6, by rw [Nat.sub_self]; exact RB.nils, by simp, by simp⟩ ?_
  rintro m f H1 hf ⟨hmn, f1, z1, ob1, kA, v, f6, hv, gv, nv⟩
  cases m with
  | zero =>
    simp [f1]
    exact ⟨z1, ob1, kA, v, f6, by simpa using hv⟩
  | succ m =>
    have w1 : IntKind.i64.wrap (m : Int) = (m : Int) := i64w (by omega) (by omega)
    have e1i : ((m : Int) + 1 - 1) = (m : Int) := by omega
    have p1 : (0 : Int) < (m : Int) + 1 := by omega
    have op1 := (ob1 p hp).trans op
    have lp : p < H1.size := by omega
    obtain ⟨v1, H2, hb1, kb1, sb1, rb1, -, -⟩ := bitsV_run hw x H1
    simp (maxDischargeDepth := 40) [hf, e2, f1, f6, p1, op1, lp, hb1]
    generalize hA : appU _ _ _ _ = q
    have hle : w * (n - (m + 1)) ≤ 128 := Nat.le_trans (Nat.mul_le_mul_left w (by omega)) hn
    obtain ⟨H3, rfl, f3, s3, rb3⟩ := appB hA (hv.keep kb1) gv rb1 (by simp; omega) (by rw [repL_len, bl_length]; omega)
    have hls2 : repL x (n - (m + 1)) ++ bl x = repL x (n - m) := by
      rw [show n - m = (n - (m + 1)) + 1 from by omega]; rfl
    rw [hls2] at rb3
    simp (maxDischargeDepth := 40) [f1, e1i, w1]
    refine ⟨m, by omega, by omega, rfl, by omega, fun q hq => ?_, fun A k hk => ?_, ?_, by omega⟩
    · rw [f3.obj q (by omega) (fun hh => by have := nv q hh; omega), kb1.obj q (by omega)]; exact ob1 q hq
    · exact f3.keeps ((kA A k hk).trans kb1) (fun p hp => by have := nv p hp; omega)
    · simpa using rb3
theorem repeat_same (w n : Int) (l h : BitVec 64) : ∃ (k : Int) (p q : BitVec 64) (e : Int), (∀ H, R Zgj [.agg [.int .i64 w, u l, u h], .int .i64 n] H = some (.tup [.agg [.int .i64 k, u p, u q], .int .i64 e], H)) ∧ ∀ H, R Zc6 [.agg [.int .i64 w, u l, u h], .int .i64 n] H = some (.tup [.agg [.int .i64 k, u p, u q], .int .i64 e], H) := by
  have r1 := fun H => bvword_run (w := w) (l := l) (h := h) (H := H)
  have r2 := fun H => refword_run (w := w) (l := l) (h := h) (H := H)
  cases h1 : isWd w l h with
  | false =>
    rw [h1] at r1 r2
    refine ⟨0, 0#64, 0#64, 10, fun H => ?_, fun H => ?_⟩
    · rw [Zh6]; simp (maxDischargeDepth := 40) [Zhg, r1]
    · rw [Zfc]; simp (maxDischargeDepth := 40) [Zeh, r2]
  | true =>
    rw [h1] at r1 r2
    obtain ⟨m, x, m1, m2, rfl, rfl, rfl⟩ := isWd_word h1
    by_cases c1 : n < 1
    · refine ⟨0, 0#64, 0#64, 12, fun H => ?_, fun H => ?_⟩
      · rw [Zh6]; simp (maxDischargeDepth := 40) [Zhg, r1, c1]
      · rw [Zfc]; simp (maxDischargeDepth := 40) [Zeh, r2, c1]
    have m0 : ¬ m = 0 := by omega
    have m0' : ¬ (m : Int) = 0 := by omega
    have hq : (128 : Int).tdiv (m : Int) = ((128 / m : Nat) : Int) := by rw [Int.tdiv_eq_ediv_of_nonneg (by omega)]; rfl
    have hqle : 128 / m ≤ 128 := Nat.div_le_self _ _
    have hmul : m * (128 / m) ≤ 128 := Nat.mul_div_le _ _
    have hmul2 : ∀ k, 128 / m < k → 128 < m * k := fun k hk => by
      have := (Nat.div_lt_iff_lt_mul (by omega : 0 < m)).1 hk
      rwa [Nat.mul_comm] at this
    generalize 128 / m = Q at *
    have wq : IntKind.i64.wrap (Q : Int) = (Q : Int) := i64w (by omega) (by omega)
    by_cases c2 : (Q : Int) < n
    · refine ⟨0, 0#64, 0#64, 10, fun H => ?_, fun H => ?_⟩
      · rw [Zh6]; simp (maxDischargeDepth := 40) [Zhg, r1, c1, m0, hq, wq, c2]
      · rw [Zfc]; simp (maxDischargeDepth := 40) [Zeh, r2, c1, m0, hq, wq, c2]
    obtain ⟨n, rfl⟩ := Int.eq_ofNat_of_zero_le (show 0 ≤ n by omega)
    have hn1 : 1 ≤ n := by omega
    have hnq : n ≤ Q := by omega
    have hmn : m * n ≤ 128 := Nat.le_trans (Nat.mul_le_mul_left m hnq) hmul
    have c1' : ¬ (n : Int) < 1 := c1
    have c2' : ¬ (Q : Int) < n := c2
    refine ⟨(m * n : Nat), lo (E (repB x n)), hi (E (repB x n)), 0, fun H => ?_, fun H => ?_⟩
    · exact (repeat_run m1 hmn hn1).run
    · generalize hr : R Zc6 _ H = r
      rw [Zfc] at hr
      simp (maxDischargeDepth := 40) (maxSteps := 300000) [Zeh, r2, c1', m0, hq, wq, c2'] at hr
      generalize hL : loopL _ _ _ _ _ _ = q at hr
      obtain ⟨y, e1, H2, rfl, ⟨rfl, z2, ob2, kA, v, e6, hv⟩, fr⟩ := rrep_loop (x := x) (p := H.size) (B0 := H.size + 2) m1 m2 hmn (by omega) (by simp) (by omega) (by simp) hL (by simp) (by simp) (by simp)
      have hwd := wordL hv (s := m * n) (repL_len x n) hmn (z := E (repB x n)) (fun i hi => by
        rw [repL_bit x n i hi, E_bit hmn, repB_bit (by omega) x hmn]; simp [hi])
      rw [E_set hmn] at hwd
      have o2z : H2.obj (H.size + 1) = .cells [.int .i64 0, u 0#64, u 0#64] := by rw [ob2 _ (by omega)]; simp
      have k2 := kA H ((Keeps.new _ _).trans (Keeps.new _ _)) (by omega)
      simp only [new_size] at z2
      have z3 : H.size + 1 < H2.size := by omega
      have kX : ∀ X, Keeps H (H2.set (H.size + 1) X) := fun X => k2.set (by omega) X
      generalize E (repB x n) = zz at *
      simp (maxDischargeDepth := 40) (maxSteps := 300000) [fr, e6, hwd, o2z, z3, kX] at hr
      rw [← hr]; simp
end Go.Proofs.YtiaoojghohfkjaaGreat
end
section
namespace Go.Proofs.YtiaoojghohfkjaaGreat
set_option maxRecDepth 100000
set_option maxHeartbeats 2000000
theorem truth_run {v : Vl} {H : AHeap} : R Zbi [.agg [.int .i64 v.w, u (lo v.n), u (hi v.n)]] H = some (.bool v.yes, H) := by
  rw [Zjs]
  simp (maxDischargeDepth := 40) [Zht, Vl.yes]
theorem rbool_run {b : Bool} {H : AHeap} : R Z9 [.bool b] H = some ((Vl.bool b).av, H) := refbool_run
theorem yes_bool (b : Bool) : (Vl.bool b).yes = b := by cases b <;> decide
theorem bool_inj (a b : Bool) : decide (Vl.bool a = Vl.bool b) = (a == b) := by cases a <;> cases b <;> decide
theorem vl_eq3 {a b : Vl} : (decide (a.w = b.w) && (decide (lo a.n = lo b.n) && decide (hi a.n = hi b.n))) = decide (a = b) := by rw [vl_eq, Bool.and_assoc]
section
variable {H : AHeap} {s : AV} {p q : Int}
theorem rm_not {a : Vl} (hs : RV H s [a]) : R Zp [.int .i64 3, .int .i64 p, .int .i64 q, s] H = some ((Vl.bool (!a.yes)).av, H) := by
  obtain ⟨x0, y0⟩ := hs.at (i := 0) (x := a) rfl
  have x0' : aindexAddr Tryz.prog Zf s 0 = some (ixp s 3 0) := x0
  have ht := fun H => truth_run (v := a) (H := H)
  have hb := fun H => rbool_run (b := !a.yes) (H := H)
  rw [Zy]
  simp (maxDischargeDepth := 40) [Zv, x0', y0, ht, hb]
theorem rm_and {a b : Vl} (hs : RV H s [a, b]) : R Zp [.int .i64 4, .int .i64 p, .int .i64 q, s] H = some ((Vl.bool (a.yes && b.yes)).av, H) := by
  obtain ⟨x0, y0⟩ := hs.at (i := 0) (x := a) rfl
  obtain ⟨x1, y1⟩ := hs.at (i := 1) (x := b) rfl
  have x0' : aindexAddr Tryz.prog Zf s 0 = some (ixp s 3 0) := x0
  have x1' : aindexAddr Tryz.prog Zf s 1 = some (ixp s 3 1) := x1
  have ht := fun H => truth_run (v := a) (H := H)
  have ht2 := fun H => truth_run (v := b) (H := H)
  have hb := fun c H => rbool_run (b := c) (H := H)
  rw [Zy]
  cases ha : a.yes <;> rw [ha] at ht <;> simp (maxDischargeDepth := 40) [Zv, x0', y0, x1', y1, ht, ht2, hb]
theorem rm_or {a b : Vl} (hs : RV H s [a, b]) : R Zp [.int .i64 5, .int .i64 p, .int .i64 q, s] H = some ((Vl.bool (a.yes || b.yes)).av, H) := by
  obtain ⟨x0, y0⟩ := hs.at (i := 0) (x := a) rfl
  obtain ⟨x1, y1⟩ := hs.at (i := 1) (x := b) rfl
  have x0' : aindexAddr Tryz.prog Zf s 0 = some (ixp s 3 0) := x0
  have x1' : aindexAddr Tryz.prog Zf s 1 = some (ixp s 3 1) := x1
  have ht := fun H => truth_run (v := a) (H := H)
  have ht2 := fun H => truth_run (v := b) (H := H)
  have hb := fun c H => rbool_run (b := c) (H := H)
  rw [Zy]
  cases ha : a.yes <;> rw [ha] at ht <;> simp (maxDischargeDepth := 40) [Zv, x0', y0, x1', y1, ht, ht2, hb]
theorem rm_imp {a b : Vl} (hs : RV H s [a, b]) : R Zp [.int .i64 7, .int .i64 p, .int .i64 q, s] H = some ((Vl.bool (!a.yes || b.yes)).av, H) := by
  obtain ⟨x0, y0⟩ := hs.at (i := 0) (x := a) rfl
  obtain ⟨x1, y1⟩ := hs.at (i := 1) (x := b) rfl
  have x0' : aindexAddr Tryz.prog Zf s 0 = some (ixp s 3 0) := x0
  have x1' : aindexAddr Tryz.prog Zf s 1 = some (ixp s 3 1) := x1
  have ht := fun H => truth_run (v := a) (H := H)
  have ht2 := fun H => truth_run (v := b) (H := H)
  have hb := fun c H => rbool_run (b := c) (H := H)
  rw [Zy]
  cases ha : a.yes <;> rw [ha] at ht <;> simp (maxDischargeDepth := 40) [Zv, x0', y0, x1', y1, ht, ht2, hb]
theorem rm_xor {a b : Vl} (hs : RV H s [a, b]) : R Zp [.int .i64 6, .int .i64 p, .int .i64 q, s] H = some ((Vl.bool (!decide (a = b))).av, H) := by
  obtain ⟨x0, y0⟩ := hs.at (i := 0) (x := a) rfl
  obtain ⟨x1, y1⟩ := hs.at (i := 1) (x := b) rfl
  have x0' : aindexAddr Tryz.prog Zf s 0 = some (ixp s 3 0) := x0
  have x1' : aindexAddr Tryz.prog Zf s 1 = some (ixp s 3 1) := x1
  have hb := fun H => rbool_run (b := !decide (a = b)) (H := H)
  rw [← vl_eq3] at hb ⊢
  simp only [Bool.not_and] at hb ⊢
  rw [Zy]
  simp (maxDischargeDepth := 40) [Zv, x0', y0, x1', y1, hb]
theorem rm_eq {a b : Vl} (hs : RV H s [a, b]) : R Zp [.int .i64 8, .int .i64 p, .int .i64 q, s] H = some ((Vl.bool (decide (a = b))).av, H) := by
  obtain ⟨x0, y0⟩ := hs.at (i := 0) (x := a) rfl
  obtain ⟨x1, y1⟩ := hs.at (i := 1) (x := b) rfl
  have x0' : aindexAddr Tryz.prog Zf s 0 = some (ixp s 3 0) := x0
  have x1' : aindexAddr Tryz.prog Zf s 1 = some (ixp s 3 1) := x1
  have hb := fun H => rbool_run (b := decide (a = b)) (H := H)
  rw [← vl_eq3] at hb ⊢
  rw [Zy]
  simp (maxDischargeDepth := 40) [Zv, x0', y0, x1', y1, hb]
theorem rm_ite {a b c : Vl} (hs : RV H s [a, b, c]) : R Zp [.int .i64 9, .int .i64 p, .int .i64 q, s] H = some ((if a.yes = true then b else c).av, H) := by
  obtain ⟨x0, y0⟩ := hs.at (i := 0) (x := a) rfl
  obtain ⟨x1, y1⟩ := hs.at (i := 1) (x := b) rfl
  obtain ⟨x2, y2⟩ := hs.at (i := 2) (x := c) rfl
  have x0' : aindexAddr Tryz.prog Zf s 0 = some (ixp s 3 0) := x0
  have x1' : aindexAddr Tryz.prog Zf s 1 = some (ixp s 3 1) := x1
  have x2' : aindexAddr Tryz.prog Zf s 2 = some (ixp s 3 2) := x2
  have ht := fun H => truth_run (v := a) (H := H)
  rw [Zy]
  cases ha : a.yes <;> rw [ha] at ht <;> simp (maxDischargeDepth := 40) [Zv, x0', y0, x1', y1, x2', y2, ht]
theorem rm_one {a v : Vl} {op : Int} (hs : RV H s [a]) (h1 : 10 ≤ op) (h2 : op ≤ 11) (r : Told1 Zdu [.int .i64 op, .agg [.int .i64 a.w, u (lo a.n), u (hi a.n)]] v) : R Zp [.int .i64 op, .int .i64 p, .int .i64 q, s] H = some (v.av, H) := by
  obtain ⟨x0, y0⟩ := hs.at (i := 0) (x := a) rfl
  have x0' : aindexAddr Tryz.prog Zf s 0 = some (ixp s 3 0) := x0
  rw [Zy]
  rcases (by omega : op = 10 ∨ op = 11) with rfl | rfl <;> simp (maxDischargeDepth := 40) [Zv, x0', y0, r]
theorem rm_concat {a b v : Vl} (hs : RV H s [a, b]) (r : Told1 Zc4 [.agg [.int .i64 a.w, u (lo a.n), u (hi a.n)], .agg [.int .i64 b.w, u (lo b.n), u (hi b.n)]] v) : R Zp [.int .i64 38, .int .i64 p, .int .i64 q, s] H = some (v.av, H) := by
  obtain ⟨x0, y0⟩ := hs.at (i := 0) (x := a) rfl
  obtain ⟨x1, y1⟩ := hs.at (i := 1) (x := b) rfl
  have x0' : aindexAddr Tryz.prog Zf s 0 = some (ixp s 3 0) := x0
  have x1' : aindexAddr Tryz.prog Zf s 1 = some (ixp s 3 1) := x1
  rw [Zy]
  simp (maxDischargeDepth := 40) [Zv, x0', y0, x1', y1, r]
theorem rm_two {a b v : Vl} {op : Int} (hs : RV H s [a, b]) (h1 : 12 ≤ op) (h2 : op ≤ 37) (r : Told1 Zc1 [.int .i64 op, .agg [.int .i64 a.w, u (lo a.n), u (hi a.n)], .agg [.int .i64 b.w, u (lo b.n), u (hi b.n)]] v) : R Zp [.int .i64 op, .int .i64 p, .int .i64 q, s] H = some (v.av, H) := by
  obtain ⟨x0, y0⟩ := hs.at (i := 0) (x := a) rfl
  obtain ⟨x1, y1⟩ := hs.at (i := 1) (x := b) rfl
  have x0' : aindexAddr Tryz.prog Zf s 0 = some (ixp s 3 0) := x0
  have x1' : aindexAddr Tryz.prog Zf s 1 = some (ixp s 3 1) := x1
  have g3 : ¬ op = 3 := by omega
  have g4 : ¬ op = 4 := by omega
  have g5 : ¬ op = 5 := by omega
  have g6 : ¬ op = 6 := by omega
  have g7 : ¬ op = 7 := by omega
  have g8 : ¬ op = 8 := by omega
  have g9 : ¬ op = 9 := by omega
  have d1 : ¬ op = 10 := by omega
  have d2 : ¬ op = 11 := by omega
  have d3 : ¬ op = 38 := by omega
  have d4 : ¬ op = 39 := by omega
  have d5 : ¬ op = 40 := by omega
  have d6 : ¬ op = 41 := by omega
  have d7 : ¬ op = 42 := by omega
  have d8 : ¬ op = 43 := by omega
  have d9 : ¬ op = 44 := by omega
  rw [Zy]
  simp (maxDischargeDepth := 40) [Zv, x0', y0, x1', y1, r, g3, g4, g5, g6, g7, g8, g9, d1, d2, d3, d4, d5, d6, d7, d8, d9]
theorem rm_extract {a v : Vl} (hs : RV H s [a]) (r : Told1 Zdv [.agg [.int .i64 a.w, u (lo a.n), u (hi a.n)], .int .i64 p, .int .i64 q] v) : R Zp [.int .i64 39, .int .i64 p, .int .i64 q, s] H = some (v.av, H) := by
  obtain ⟨x0, y0⟩ := hs.at (i := 0) (x := a) rfl
  have x0' : aindexAddr Tryz.prog Zf s 0 = some (ixp s 3 0) := x0
  rw [Zy]
  simp (maxDischargeDepth := 40) [Zv, x0', y0, r]
theorem rm_ext {a v : Vl} {op : Int} (hs : RV H s [a]) (h1 : 40 ≤ op) (h2 : op ≤ 41) (r : Told1 Zc5 [.agg [.int .i64 a.w, u (lo a.n), u (hi a.n)], .int .i64 p, .bool (decide (op = 41))] v) : R Zp [.int .i64 op, .int .i64 p, .int .i64 q, s] H = some (v.av, H) := by
  obtain ⟨x0, y0⟩ := hs.at (i := 0) (x := a) rfl
  have x0' : aindexAddr Tryz.prog Zf s 0 = some (ixp s 3 0) := x0
  rw [Zy]
  rcases (by omega : op = 40 ∨ op = 41) with rfl | rfl <;> simp only [Int.reduceEq, decide_false, decide_true] at r <;> simp (maxDischargeDepth := 40) [Zv, x0', y0, r]
theorem rm_rot {a v : Vl} {op : Int} (hs : RV H s [a]) (h1 : 42 ≤ op) (h2 : op ≤ 43) (r : Told1 Zci [.agg [.int .i64 a.w, u (lo a.n), u (hi a.n)], .int .i64 p, .bool (decide (op = 42))] v) : R Zp [.int .i64 op, .int .i64 p, .int .i64 q, s] H = some (v.av, H) := by
  obtain ⟨x0, y0⟩ := hs.at (i := 0) (x := a) rfl
  have x0' : aindexAddr Tryz.prog Zf s 0 = some (ixp s 3 0) := x0
  rw [Zy]
  rcases (by omega : op = 42 ∨ op = 43) with rfl | rfl <;> simp only [Int.reduceEq, decide_false, decide_true] at r <;> simp (maxDischargeDepth := 40) [Zv, x0', y0, r]
theorem rm_rep {a v : Vl} (hs : RV H s [a]) (r : Told1 Zc6 [.agg [.int .i64 a.w, u (lo a.n), u (hi a.n)], .int .i64 p] v) : R Zp [.int .i64 44, .int .i64 p, .int .i64 q, s] H = some (v.av, H) := by
  obtain ⟨x0, y0⟩ := hs.at (i := 0) (x := a) rfl
  have x0' : aindexAddr Tryz.prog Zf s 0 = some (ixp s 3 0) := x0
  rw [Zy]
  simp (maxDischargeDepth := 40) [Zv, x0', y0, r]
end
theorem told_same {f g : FuncId} {vs ws : List AV} {v : Vl} (h : ∃ (k : Int) (p q : BitVec 64) (e : Int), (∀ H, R f vs H = some (.tup [.agg [.int .i64 k, u p, u q], .int .i64 e], H)) ∧ ∀ H, R g ws H = some (.tup [.agg [.int .i64 k, u p, u q], .int .i64 e], H)) (k : ∀ H, R f vs H = some (.tup [v.av, .int .i64 0], H)) : Told1 g ws v := by
  obtain ⟨a, b, c, e, h1, h2⟩ := h
  intro H
  have := (h1 H).symm.trans (k H)
  rw [h2 H]
  simp only [Option.some.injEq, Prod.mk.injEq] at this ⊢
  exact ⟨this.1, trivial⟩
theorem rmeaning_run {op p q s' : Int} {H : AHeap} {s : AV} {l : List Vl} (hs : RV H s l) (hf : Fit op p q l s') : R Zp [.int .i64 op, .int .i64 p, .int .i64 q, s] H = some ((meanV op p q l).av, H) := by
  cases hf with
  | not a h1 => subst h1; rw [mean_bool (by omega)]; exact rm_not hs
  | two a b h1 h2 =>
    rw [mean_bool (by omega)]
    rcases (by omega : op = 4 ∨ op = 5 ∨ op = 6 ∨ op = 7) with rfl | rfl | rfl | rfl
    · exact rm_and hs
    · exact rm_or hs
    · have := rm_xor (p := p) (q := q) hs
      rw [bool_inj] at this
      rw [this]
      show _ = some ((Vl.bool ((Vl.bool a).yes != (Vl.bool b).yes)).av, H)
      rw [yes_bool, yes_bool]
      rfl
    · exact rm_imp hs
  | eq a b h1 => subst h1; rw [mean_bool (by omega)]; exact rm_eq hs
  | ite c a b h1 => subst h1; rw [mean_ite]; exact rm_ite hs
  | one n x h1 h2 h3 h4 h5 h6 =>
    refine rm_one hs h3 h4 (told_same (one_same op n (lo (E x)) (hi (E x))) fun H2 => ?_)
    have r := (one_run h1 h2 (n := op) (a := x) (H := H2)).run
    rcases (by omega : op = 10 ∨ op = 11) with rfl | rfl
    · rw [mean_not h2]; exact r
    · rw [mean_neg h2]; exact r
  | word n x y h1 h2 h3 h4 h5 h6 =>
    refine rm_two hs h3 (by omega) (told_same (two_same op n n (lo (E x)) (hi (E x)) (lo (E y)) (hi (E y))) fun H2 => ?_)
    have r := (two_run h1 h2 (n := op) (a := x) (b := y) (H := H2)).run
    rw [twoF_word h2 ⟨h3, h4⟩, twoE, if_pos (by omega)] at r
    rw [mean_two h3 (by omega) h2, twoV, if_pos h4]
    exact r
  | cmp n x y h1 h2 h3 h4 h5 h6 =>
    refine rm_two hs (by omega) (by omega) (told_same (two_same op n n (lo (E x)) (hi (E x)) (lo (E y)) (hi (E y))) fun H2 => ?_)
    have r := (two_run h1 h2 (n := op) (a := x) (b := y) (H := H2)).run
    rw [twoF, if_neg (by omega), if_neg (by omega), if_neg (by omega), if_pos (by omega), twoE, if_pos (by omega)] at r
    rw [mean_two (by omega) (by omega) h2, twoV, if_neg (by omega), if_pos h4]
    exact r
  | comp n x y h1 h2 h3 h4 h5 =>
    subst h3
    refine rm_two hs (by omega) (by omega) (told_same (two_same 37 n n (lo (E x)) (hi (E x)) (lo (E y)) (hi (E y))) fun H2 => ?_)
    have r := (two_run h1 h2 (n := 37) (a := x) (b := y) (H := H2)).run
    rw [two_comp, show twoE 37 = 0 from rfl] at r
    rw [mean_two (by omega) (by omega) h2, twoV, if_neg (by omega), if_neg (by omega)]
    exact r
  | concat n m x y h1 h2 h3 h4 h5 h6 =>
    subst h4
    refine rm_concat hs (told_same (concat_same n m (lo (E x)) (hi (E x)) (lo (E y)) (hi (E y))) fun H2 => ?_)
    rw [mean_concat (by omega) (by omega)]
    exact (concat_run h1 h2 rfl h3 (a := x) (b := y) (H := H2)).run
  | extract n i j x h1 h2 h3 h4 h5 h6 h7 =>
    subst h3; subst h4; subst h5
    refine rm_extract hs (told_same (extract_same n i j (lo (E x)) (hi (E x))) fun H2 => ?_)
    rw [mean_extract h2 h6]
    exact (extract_run h1 h2 (d := i - j) (by omega) h7 rfl (a := x) (H := H2)).run
  | ext n k x h1 h2 h3 h4 h5 h6 =>
    subst h5
    refine rm_ext hs h3 h4 (told_same (extend_same n k (decide (op = 41)) (lo (E x)) (hi (E x))) fun H2 => ?_)
    have r := (extend_run h1 (n := k) rfl h2 (a := x) (sg := decide (op = 41)) (H := H2)).run
    rcases (by omega : op = 40 ∨ op = 41) with rfl | rfl
    · rw [mean_zext (by omega)]
      rw [show decide ((40 : Int) = 41) = false from rfl] at r ⊢
      simp only [Bool.false_and, Bool.false_eq_true, if_false] at r
      exact r
    · rw [mean_sext (by omega)]
      rw [show decide ((41 : Int) = 41) = true from rfl] at r ⊢
      simp only [Bool.true_and] at r
      exact r
  | rot n k x h1 h2 h3 h4 h5 h6 =>
    subst h5
    refine rm_rot hs h3 h4 (told_same (rotate_same n k (decide (op = 42)) (lo (E x)) (hi (E x))) fun H2 => ?_)
    rcases (by omega : op = 42 ∨ op = 43) with rfl | rfl
    · rw [mean_rotl h2]
      exact (rotate_left h1 h2 (n := k) rfl rfl (a := x) (H := H2)).run
    · rw [mean_rotr h2]
      exact (rotate_right h1 h2 (n := k) rfl rfl rfl rfl (a := x) (H := H2)).run
  | rep n k x h1 h2 h3 h4 h5 h6 =>
    subst h4; subst h5
    have hn : n ≤ 128 := Nat.le_trans (Nat.le_mul_of_pos_right n h2) h3
    refine rm_rep hs (told_same (repeat_same n k (lo (E x)) (hi (E x))) fun H2 => ?_)
    rw [mean_rep hn]
    exact (repeat_run h1 h3 h2 (x := x) (H := H2)).run
end Go.Proofs.YtiaoojghohfkjaaGreat
end
section
namespace Go.Proofs.YtiaoojghohfkjaaGreat
set_option maxRecDepth 100000
def ixG (l : Option (Option Nat)) (cs : List AV) (i : Int) : Option (Nat × Nat) → Option AV
  | some (len, sz) => if 0 ≤ i ∧ i < len then ldK l cs (i.toNat * sz) else none
  | none => none
@[simp] theorem aindex_agg {P : Program} {t : TypeId} {cs : List AV} {i : Int} : aindex P t (.agg cs) i = ixG (arrL P t) cs i (arrS P t) := by
  unfold aindex ixG arrL arrS
  cases P.underlying t with
  | none => rfl
  | some d =>
    cases d <;> try rfl
    rename_i len el
    simp only [loadC_eq]
    cases tS P el <;> rfl
@[simp] theorem ixG_some {l : Option (Option Nat)} {cs : List AV} {i : Int} {len sz : Nat} : ixG l cs i (some (len, sz)) = if 0 ≤ i ∧ i < len then ldK l cs (i.toNat * sz) else none := nr rfl
structure Nd where
  op : Int
  sort : Int
  a : Int
  b : Int
  c : Int
  p : Int
  q : Int
  vw : Int
  vl : BitVec 64
  vh : BitVec 64
  name : ByteArray
  deriving DecidableEq
def Nd.cs (n : Nd) : List AV := [.int .i64 n.op, .int .i64 n.sort, .int .i64 n.a, .int .i64 n.b, .int .i64 n.c, .int .i64 n.p, .int .i64 n.q, .int .i64 n.vw, u n.vl, u n.vh, .str n.name]
@[simp] theorem Nd.cs_len (n : Nd) : n.cs.length = 11 := rfl
def Nd.zero : Nd := ⟨0, 0, 0, 0, 0, 0, 0, 0, 0#64, 0#64, .empty⟩
def shN' : KSh := .many [.i .i64, .i .i64, .i .i64, .i .i64, .i .i64, .i .i64, .i .i64, .i .i64, .i .u64, .i .u64, .s]
theorem keyEq_nd (n m : Nd) : keyEq (.agg n.cs) (.agg m.cs) = decide (n = m) := by
  have hu : ∀ x y : BitVec 64, scEq (u x) (u y) = decide (x = y) := fun x y => by
    simp only [u, scEq_int, decide_eq_decide]
    exact ⟨fun h => BitVec.eq_of_toNat_eq (Int.ofNat.inj h), fun h => by rw [h]⟩
  simp only [keyEq, Nd.cs, scsEq_cons, scsEq_nil, scEq_int, scEq_str, hu, Bool.and_true, ← Bool.decide_and]
  rw [decide_eq_decide]
  constructor
  · rintro ⟨h1, h2, h3, h4, h5, h6, h7, h8, h9, h10, h11⟩
    cases n; cases m
    simp only at h1 h2 h3 h4 h5 h6 h7 h8 h9 h10 h11
    subst h1 h2 h3 h4 h5 h6 h7 h8 h9 h10 h11
    rfl
  · rintro rfl; simp
theorem findE_append (k : AV) : ∀ (es : List AEnt) (e : AEnt), findE k (es ++ [e]) = (findE k es).or (if keyEq k e.key = true then some e else none)
  | [], e => by simp [findE]
  | x :: es, e => by
    simp only [List.cons_append, findE]
    split
    · rfl
    · exact findE_append k es e
def idx (ns : List Nd) (n : Nd) : Option Nat := ns.findIdx? (fun m => decide (n = m))
def vidx (ns : List Nd) (s : ByteArray) : Option Nat := ns.findIdx? (fun m => decide (m.op = 2) && decide (s = m.name))
theorem idx_append (ns : List Nd) (n m : Nd) : idx (ns ++ [m]) n = (idx ns n).or (if n = m then some ns.length else none) := by
  unfold idx
  rw [List.findIdx?_append]
  congr 1
  by_cases h : n = m <;> simp [h, List.findIdx?_cons]
theorem vidx_append (ns : List Nd) (s : ByteArray) (m : Nd) : vidx (ns ++ [m]) s = (vidx ns s).or (if m.op = 2 ∧ s = m.name then some ns.length else none) := by
  unfold vidx
  rw [List.findIdx?_append]
  congr 1
  by_cases h : m.op = 2 <;> by_cases h2 : s = m.name <;> simp [h, h2, List.findIdx?_cons]
def num (i : Nat) : AV := .int .i64 ((i : Int) + 1)
def slv (o : Nat) (ns : List Nd) : AV := if ns = [] then .nils else .row o 0 11 ns.length false
def flat (ns : List Nd) : List AV := ns.flatMap Nd.cs
theorem flat_len (ns : List Nd) : (flat ns).length = ns.length * 11 := by
  unfold flat
  induction ns with
  | nil => rfl
  | cons n ns ih => simp only [List.flatMap_cons, List.length_append, ih, Nd.cs_len, List.length_cons]; omega
theorem flat_append (ns : List Nd) (n : Nd) : flat (ns ++ [n]) = flat ns ++ n.cs := by simp [flat]
theorem flat_drop : ∀ (ns : List Nd) (i : Nat), (flat ns).drop (i * 11) = flat (ns.drop i)
  | ns, 0 => by simp
  | [], i + 1 => by simp [flat]
  | n :: ns, i + 1 => by
    have e : (i + 1) * 11 = 11 + i * 11 := by omega
    rw [e, ← List.drop_drop]
    have : (flat (n :: ns)).drop 11 = flat ns := by simp [flat, List.drop_append]
    rw [this, flat_drop ns i]; rfl
theorem flat_at {ns : List Nd} {i : Nat} {n : Nd} (h : ns[i]? = some n) : ((flat ns).drop (i * 11)).take 11 = n.cs := by
  have hlt := (List.getElem?_eq_some_iff.1 h).1
  rw [flat_drop, List.drop_eq_getElem_cons hlt]
  have : ns[i] = n := (List.getElem?_eq_some_iff.1 h).2
  simp [flat, this]
  exact List.take_left' rfl
theorem flat_get {ns : List Nd} {i : Nat} {n : Nd} (h : ns[i]? = some n) {j : Nat} (hj : j < 11) : (flat ns)[i * 11 + j]? = n.cs[j]? := by
  rw [← flat_at h, List.getElem?_take_of_lt hj, List.getElem?_drop]
structure TG (H : AHeap) (g : Nat) (most : Int) (ns : List Nd) (o1 o2 o3 : Nat) : Prop where
  lg : g < H.size
  l1 : ns ≠ [] → o1 < H.size
  l2 : o2 < H.size
  l3 : o3 < H.size
  og : H.obj g = .cells [.int .i64 most, slv o1 ns, .map o2, .map o3]
  b1 : ns ≠ [] → H.obj o1 = .cells (flat ns)
  b2 : ∃ es c, H.obj o2 = .map shN' es c ∧ ∀ n, (findE (.agg n.cs) es).map (·.val) = (idx ns n).map num
  b3 : ∃ es c, H.obj o3 = .map (.one .s) es c ∧ ∀ s, (findE (.str s) es).map (·.val) = (vidx ns s).map num
  n1 : ns ≠ [] → g ≠ o1
  n2 : g ≠ o2
  n3 : g ≠ o3
  n12 : ns ≠ [] → o1 ≠ o2
  n13 : ns ≠ [] → o1 ≠ o3
  n23 : o2 ≠ o3
  lim : (ns.length : Int) ≤ most
  lim2 : most ≤ 4096
theorem TG.keep {H H' : AHeap} {g : Nat} {most : Int} {ns : List Nd} {o1 o2 o3 : Nat} (h : TG H g most ns o1 o2 o3) (k : Keeps H H') : TG H' g most ns o1 o2 o3 :=
  ⟨k.lt h.lg, fun e => k.lt (h.l1 e), k.lt h.l2, k.lt h.l3, (k.obj _ h.lg).trans h.og, fun e => (k.obj _ (h.l1 e)).trans (h.b1 e), by rw [k.obj _ h.l2]; exact h.b2, by rw [k.obj _ h.l3]; exact h.b3, h.n1, h.n2, h.n3, h.n12, h.n13, h.n23, h.lim, h.lim2⟩
theorem slv_len (o : Nat) (ns : List Nd) : sliceLen (slv o ns) = some ns.length := by
  unfold slv
  split
  · rename_i h; subst h; rfl
  · rfl
theorem slv_reads {H : AHeap} {o : Nat} {ns : List Nd} (h1 : ns ≠ [] → o < H.size) (h2 : ns ≠ [] → H.obj o = .cells (flat ns)) : Reads H (slv o ns) 11 ns.length (flat ns) := by
  unfold slv
  split
  · rename_i h; subst h; exact Reads.nils
  · rename_i h; exact Reads.row' (h1 h) (h2 h) (flat_len ns)
theorem slv_grows (o : Nat) (ns : List Nd) : grows (slv o ns) := by unfold slv; split <;> trivial
theorem slv_row {o : Nat} {ns : List Nd} {i : Nat} (h : i < ns.length) : slv o ns = .row o 0 11 ns.length false := by
  unfold slv; rw [if_neg (by rintro rfl; simp at h)]
def nodeS (ns : List Nd) (id : Int) : Option Nd := if id < 1 ∨ (ns.length : Int) < id then none else ns[(id - 1).toNat]?
theorem node_run {H : AHeap} {g : Nat} {most : Int} {ns : List Nd} {o1 o2 o3 : Nat} (h : TG H g most ns o1 o2 o3) {id : Int} : R Zba [.ptr g 0, .int .i64 id] H = some (.tup [.agg ((nodeS ns id).getD Nd.zero).cs, .bool (nodeS ns id).isSome], H) := by
  have hl := h.lim
  have hl2 := h.lim2
  unfold nodeS
  rw [Zh1]
  have ng : ¬ g = H.size := Nat.ne_of_lt h.lg
  by_cases c1 : id < 1
  · simp (maxDischargeDepth := 40) [Zdg, c1, Nd.cs, Nd.zero]
  by_cases c2 : (ns.length : Int) < id
  · simp (maxDischargeDepth := 40) [Zdg, c1, c2, h.og, ng, slv_len, Nd.cs, Nd.zero]
  obtain ⟨i, rfl⟩ : ∃ i : Nat, id = (i : Int) + 1 := ⟨(id - 1).toNat, by omega⟩
  have hi : i < ns.length := by omega
  have hne : ns ≠ [] := by rintro rfl; simp at hi
  obtain ⟨n, hn⟩ : ∃ n, ns[i]? = some n := ⟨ns[i], by simp [hi]⟩
  have w1 : IntKind.i64.wrap (i : Int) = (i : Int) := i64w (by omega) (by omega)
  have hx : ns[i] = n := (List.getElem?_eq_some_iff.1 hn).2
  have hs := slv_row (o := o1) hi
  have hsl := slv_len o1 ns
  have ho := h.b1 hne
  have hlt := h.l1 hne
  have n1 : ¬ o1 = H.size := Nat.ne_of_lt hlt
  have hfl := flat_len ns
  have hat := flat_at hn
  have hle : i * 11 + 11 ≤ ns.length * 11 := by omega
  have e1 : ((i : Int) + 1 - 1).toNat = i := by omega
  have c3 : (i : Int) < ns.length := by omega
  have hg := h.og
  rw [hs] at hg hsl
  simp (maxDischargeDepth := 40) [Zdg, c1, c2, hg, hx, w1, c3, hi, ho, n1, ng, hfl, hat, hle]
  simp (maxDischargeDepth := 40) [Nd.cs]
end Go.Proofs.YtiaoojghohfkjaaGreat
end
section
namespace Go.Proofs.YtiaoojghohfkjaaGreat
set_option maxRecDepth 100000
set_option maxHeartbeats 4000000
def kidOK (N a : Int) (i : Nat) (k : Int) : Bool := if (i : Int) < a then decide (1 ≤ k ∧ k ≤ N) else decide (k = 0)
def kidsOK (N a : Int) (l : List Int) (i : Nat) : Bool := match l with
  | [] => true
  | k :: l => kidOK N a i k && kidsOK N a l (i + 1)
def formedF (N : Int) (n : Nd) : Bool :=
  kidsOK N (arity n.op) [n.a, n.b, n.c] 0 && (decide (0 ≤ arity n.op) && (decide (n.op = 1) || decide (n.vw = 0 ∧ n.vl = 0#64 ∧ n.vh = 0#64)) && (decide (n.op = 2) || decide (n.name = .empty)))
theorem formed_loop {H : AHeap} {g : Nat} {most : Int} {ns : List Nd} {o1 o2 o3 : Nat} (h : TG H g most ns o1 o2 o3) {a x y z : Int} {e : Env} {r : Rn} (hL : loopL Tryz.prog KT R Zbw e H = r)
    (e0 : e 0 = some (.ptr g 0)) (e5 : e 5 = some (.int .i64 a)) (e17 : e 17 = some (.agg [.int .i64 x, .int .i64 y, .int .i64 z])) (e18 : e 18 = some (.int .i64 0)) :
    ∃ y' e' H', r = some (y', e', H') ∧ (H' = H ∧ ((y' = .exit 0 ∧ kidsOK ns.length a [x, y, z] 0 = true) ∨ (y' = .ret ∧ kidsOK ns.length a [x, y, z] 0 = false ∧ e' 4 = some (.bool false)))) ∧ ∀ t, t ∉ defs Zbw → e' t = e t := by
  refine loop_count Zbw.eq_1 hL 3 (fun i e1 H1 => e1 18 = some (.int .i64 i) ∧ H1 = H ∧ (0 < i → kidOK ns.length a 0 x = true) ∧ (1 < i → kidOK ns.length a 1 y = true) ∧ (2 < i → kidOK ns.length a 2 z = true)) _ 0 (by omega) ⟨e18, rfl, by simp, by simp, by simp⟩ ?_ ?_
  · rintro i f H1 hf - hi ⟨f18, rfl, k0, k1, k2⟩
    have hw1 := i64w (n := (i : Int) + 1) (by omega) (by omega)
    have hc : (i : Int) < 3 := by omega
    have hlen := slv_len o1 ns
    have K : ∀ k : Int, kidOK ns.length a i k = if (i : Int) < a then decide (1 ≤ k ∧ k ≤ ns.length) else decide (k = 0) := fun k => rfl
    rcases (show i = 0 ∨ i = 1 ∨ i = 2 by omega) with rfl | rfl | rfl
    · have K0 := K x
      rw [show (((0 : Nat) : Int)) = 0 from rfl] at K0
      by_cases c1 : (0 : Int) < a
      · have c1' : ¬ a ≤ 0 := by omega
        by_cases c2 : x < 1
        · have kf : kidOK ns.length a 0 x = false := by rw [K0]; simp [c1]; omega
          have kk : kidsOK ns.length a [x, y, z] 0 = false := by simp [kidsOK, kf]
          simp [hf, e5, e17, f18, c1, c2, kk]
        · by_cases c3 : (ns.length : Int) < x
          · have kf : kidOK ns.length a 0 x = false := by rw [K0]; simp [c1]; omega
            have kk : kidsOK ns.length a [x, y, z] 0 = false := by simp [kidsOK, kf]
            simp [hf, e0, e5, e17, f18, c1, c2, c3, h.og, hlen, kk]
          · have kt : kidOK ns.length a 0 x = true := by rw [K0]; simp [c1]; omega
            simp [hf, e0, e5, e17, f18, c1, c1', c2, c3, h.og, hlen, kt]
      · have c1' : a ≤ 0 := by omega
        by_cases c2 : x = 0
        · have kt : kidOK ns.length a 0 0 = true := by rw [c2] at K0; rw [K0]; simp [c1]
          subst c2
          simp [hf, e5, e17, f18, c1, c1', kt]
        · have kf : kidOK ns.length a 0 x = false := by rw [K0]; simp [c1, c2]
          have kk : kidsOK ns.length a [x, y, z] 0 = false := by simp [kidsOK, kf]
          simp [hf, e5, e17, f18, c1, c1', c2, kk]
    · have K0 := K y
      rw [show (((1 : Nat) : Int)) = 1 from rfl] at K0
      by_cases c1 : (1 : Int) < a
      · have c1' : ¬ a ≤ 1 := by omega
        by_cases c2 : y < 1
        · have kf : kidOK ns.length a 1 y = false := by rw [K0]; simp [c1]; omega
          have kk : kidsOK ns.length a [x, y, z] 0 = false := by simp [kidsOK, kf]
          simp [hf, e5, e17, f18, c1, c2, kk]
        · by_cases c3 : (ns.length : Int) < y
          · have kf : kidOK ns.length a 1 y = false := by rw [K0]; simp [c1]; omega
            have kk : kidsOK ns.length a [x, y, z] 0 = false := by simp [kidsOK, kf]
            simp [hf, e0, e5, e17, f18, c1, c2, c3, h.og, hlen, kk]
          · have kt : kidOK ns.length a 1 y = true := by rw [K0]; simp [c1]; omega
            simp [hf, e0, e5, e17, f18, c1, c1', c2, c3, h.og, hlen, kt, k0 (by omega)]
      · have c1' : a ≤ 1 := by omega
        by_cases c2 : y = 0
        · have kt : kidOK ns.length a 1 0 = true := by rw [c2] at K0; rw [K0]; simp [c1]
          subst c2
          simp [hf, e5, e17, f18, c1, c1', kt, k0 (by omega)]
        · have kf : kidOK ns.length a 1 y = false := by rw [K0]; simp [c1, c2]
          have kk : kidsOK ns.length a [x, y, z] 0 = false := by simp [kidsOK, kf]
          simp [hf, e5, e17, f18, c1, c1', c2, kk]
    · have K0 := K z
      rw [show (((2 : Nat) : Int)) = 2 from rfl] at K0
      by_cases c1 : (2 : Int) < a
      · have c1' : ¬ a ≤ 2 := by omega
        by_cases c2 : z < 1
        · have kf : kidOK ns.length a 2 z = false := by rw [K0]; simp [c1]; omega
          have kk : kidsOK ns.length a [x, y, z] 0 = false := by simp [kidsOK, kf]
          simp [hf, e5, e17, f18, c1, c2, kk]
        · by_cases c3 : (ns.length : Int) < z
          · have kf : kidOK ns.length a 2 z = false := by rw [K0]; simp [c1]; omega
            have kk : kidsOK ns.length a [x, y, z] 0 = false := by simp [kidsOK, kf]
            simp [hf, e0, e5, e17, f18, c1, c2, c3, h.og, hlen, kk]
          · have kt : kidOK ns.length a 2 z = true := by rw [K0]; simp [c1]; omega
            simp [hf, e0, e5, e17, f18, c1, c1', c2, c3, h.og, hlen, kt, k0 (by omega), k1 (by omega)]
      · have c1' : a ≤ 2 := by omega
        by_cases c2 : z = 0
        · have kt : kidOK ns.length a 2 0 = true := by rw [c2] at K0; rw [K0]; simp [c1]
          subst c2
          simp [hf, e5, e17, f18, c1, c1', kt, k0 (by omega), k1 (by omega)]
        · have kf : kidOK ns.length a 2 z = false := by rw [K0]; simp [c1, c2]
          have kk : kidsOK ns.length a [x, y, z] 0 = false := by simp [kidsOK, kf]
          simp [hf, e5, e17, f18, c1, c1', c2, kk]
  · rintro f H1 hf ⟨f18, rfl, k0, k1, k2⟩
    simp [f18, kidsOK, k0, k1, k2]
theorem formed_run {H : AHeap} {g : Nat} {most : Int} {ns : List Nd} {o1 o2 o3 : Nat} (h : TG H g most ns o1 o2 o3) {n : Nd} : R Zcx [.ptr g 0, .agg n.cs] H = some (.bool (formedF ns.length n), H) := by
  obtain ⟨S, hS⟩ : ∃ S, S = formedF ns.length n := ⟨_, rfl⟩
  rw [← hS, Zhp]
  obtain ⟨op, sort, a, b, c, p, q, vw, vl, vh, name⟩ := n
  simp [Nd.cs, Zfv, arity_run]
  generalize hL : loopL _ _ _ _ _ _ = r
  obtain ⟨y, e1, H1, rfl, ⟨rfl, h1⟩, fr⟩ := formed_loop (a := arity op) (x := a) (y := b) (z := c) (h.keep (by simp)) hL (by simp) (by simp) (by simp) (by simp)
  have hS2 : S = (kidsOK ns.length (arity op) [a, b, c] 0 && (decide (0 ≤ arity op) && (decide (op = 1) || decide (vw = 0 ∧ vl = 0#64 ∧ vh = 0#64)) && (decide (op = 2) || decide (name = .empty)))) := hS
  rw [hS2]; clear hS2 hS
  rcases h1 with ⟨rfl, h1⟩ | ⟨rfl, h1, h2⟩
  · rw [h1, Bool.true_and]
    have z1 : (0 : Int) ≤ arity 1 := by decide
    have z2 : (0 : Int) ≤ arity 2 := by decide
    by_cases c1 : 0 ≤ arity op
    · by_cases c2 : op = 1
      · subst c2
        simp [fr, z1, show (ByteArray.empty) = ⟨#[]⟩ from rfl]
      · cases hz : (decide (vw = 0) && (decide (vl = 0#64) && decide (vh = 0#64))) with
        | true =>
          by_cases c3 : op = 2
          · subst c3
            simp [fr, hz, z2]
          · simp [fr, c1, c2, c3, hz, show (ByteArray.empty) = ⟨#[]⟩ from rfl]
        | false =>
          by_cases c3 : op = 2
          · subst c3
            simp [fr, hz, z2]
          · simp [fr, c1, c2, c3, hz, show (ByteArray.empty) = ⟨#[]⟩ from rfl]
    · simp [fr, c1]
  · rw [h1, Bool.false_and]
    simp [h2]
end Go.Proofs.YtiaoojghohfkjaaGreat
end
section
namespace Go.Proofs.YtiaoojghohfkjaaGreat
set_option maxRecDepth 100000
set_option maxHeartbeats 4000000
structure OutT (H0 H : AHeap) (v : AV) (l : List Int) : Prop where
  rd : RI H v l
  gr : grows v
  new : ∀ p, p ∈ objs v → H0.size ≤ p
theorem OutT.push {H0 H : AHeap} {v : AV} {l : List Int} (h : OutT H0 H v l) (k : Keeps H0 H) {a : Int} (hl : l.length ≤ 1000000) {r : Option (AV × AHeap)}
    (hA : appU (H.new (.cells [.int .i64 a])) v (.row H.size 0 1 1 true) (some (1, 8, [.int .i64 0])) = r) :
    ∃ v' H', r = some (v', H') ∧ OutT H0 H' v' (l ++ [a]) ∧ Keeps H0 H' := by
  obtain ⟨H1, rfl, f1, s1, o1, rd⟩ := app_of hA (h.rd.keep (by simp)) h.gr (Reads.row' (all := [.int .i64 a]) (by simp) (by simp) (by simp)) (by omega) rfl (by omega) (by omega) (by omega) (by simp)
  simp only [new_size] at s1
  have := k.size
  refine ⟨_, H1, rfl, ⟨by simpa [RI] using rd, by simp, by simp; omega⟩, f1.keeps (by simp [k]) (fun p hp => h.new p hp)⟩
def ksort (ns : List Nd) (k : Int) : List Int := if 0 < k then [(ns.getD (k - 1).toNat Nd.zero).sort] else []
theorem ksort_len (ns : List Nd) (k : Int) : (ksort ns k).length ≤ 1 := by unfold ksort; split <;> simp
theorem sorted_loop {H0 H : AHeap} {g : Nat} {most : Int} {ns : List Nd} {o1 o2 o3 : Nat} (h0 : TG H0 g most ns o1 o2 o3) (k0 : Keeps H0 H) {x y z : Int} (hx : x ≤ ns.length) (hy : y ≤ ns.length) (hz : z ≤ ns.length) {e : Env} {r : Rn} (hL : loopL Tryz.prog KT R Zbx e H = r)
    (e0 : e 0 = some (.ptr g 0)) (e7 : e 7 = some .nils) (e92 : e 92 = some (.agg [.int .i64 x, .int .i64 y, .int .i64 z])) (e93 : e 93 = some (.int .i64 0)) :
    ∃ y' e' H', r = some (y', e', H') ∧ (y' = .exit 1 ∧ Keeps H0 H' ∧ ∃ w, e' 7 = some w ∧ RI H' w (ksort ns x ++ ksort ns y ++ ksort ns z)) ∧ ∀ t, t ∉ defs Zbx → e' t = e t := by
  have hl := h0.lim
  have hl2 := h0.lim2
  have at1 : ∀ j : Nat, j < ns.length → (flat ns)[j * 11 + 1]? = some (.int .i64 (ns.getD j Nd.zero).sort) := fun j hj => by
    rw [flat_get (n := ns.getD j Nd.zero) (by simp [hj]) (by omega)]; rfl
  refine loop_count Zbx.eq_1 hL 3 (fun i e1 H1 => ∃ w, e1 7 = some w ∧ e1 93 = some (.int .i64 i) ∧ Keeps H0 H1 ∧ OutT H0 H1 w (([x, y, z].take i).flatMap (ksort ns))) _ 0 (by omega) ⟨.nils, e7, e93, k0, ⟨by simpa using RI.nils, by simp, by simp⟩⟩ ?_ ?_
  · rintro i f H1 hf - hi ⟨w, f7, f93, k1, hout⟩
    have hw1 := i64w (n := (i : Int) + 1) (by omega) (by omega)
    have hc : (i : Int) < 3 := by omega
    have h1 := h0.keep k1
    have hlen := slv_len o1 ns
    have hle : (([x, y, z].take i).flatMap (ksort ns)).length ≤ 1000000 := by
      have := ksort_len ns x
      have := ksort_len ns y
      have := ksort_len ns z
      rcases (show i = 0 ∨ i = 1 ∨ i = 2 by omega) with rfl | rfl | rfl <;> simp [List.flatMap_cons] <;> omega
    rcases (show i = 0 ∨ i = 1 ∨ i = 2 by omega) with rfl | rfl | rfl
    · by_cases c2 : 0 < x
      · obtain ⟨j, rfl⟩ : ∃ j : Nat, x = (j : Int) + 1 := ⟨(x - 1).toNat, by omega⟩
        have hj : j < ns.length := by omega
        have hne : ns ≠ [] := by rintro rfl; simp at hj
        have wj : IntKind.i64.wrap (j : Int) = (j : Int) := i64w (by omega) (by omega)
        have cj : (j : Int) < ns.length := by omega
        have hs := slv_row (o := o1) hj
        have hat := at1 j hj
        have hg := h1.og
        have hb := h1.b1 hne
        have kk : ksort ns ((j : Int) + 1) = [(ns.getD j Nd.zero).sort] := by unfold ksort; rw [if_pos (by omega)]; simp
        rw [hs] at hg
        generalize (ns.getD j Nd.zero).sort = s at hat kk
        simp [hf, e0, f7, f93, e92, c2, wj, hg, cj, hb, hat]
        generalize hA : appU _ _ _ _ = q
        obtain ⟨w', H2, rfl, h2, k2⟩ := hout.push k1 hle hA
        simp [f93, k2, kk]
        simpa using h2
      · have kk : ksort ns x = [] := by unfold ksort; rw [if_neg c2]
        simp [hf, f7, f93, e92, c2, k1, kk]
        simpa using hout
    · by_cases c2 : 0 < y
      · obtain ⟨j, rfl⟩ : ∃ j : Nat, y = (j : Int) + 1 := ⟨(y - 1).toNat, by omega⟩
        have hj : j < ns.length := by omega
        have hne : ns ≠ [] := by rintro rfl; simp at hj
        have wj : IntKind.i64.wrap (j : Int) = (j : Int) := i64w (by omega) (by omega)
        have cj : (j : Int) < ns.length := by omega
        have hs := slv_row (o := o1) hj
        have hat := at1 j hj
        have hg := h1.og
        have hb := h1.b1 hne
        have kk : ksort ns ((j : Int) + 1) = [(ns.getD j Nd.zero).sort] := by unfold ksort; rw [if_pos (by omega)]; simp
        rw [hs] at hg
        generalize (ns.getD j Nd.zero).sort = s at hat kk
        simp [hf, e0, f7, f93, e92, c2, wj, hg, cj, hb, hat]
        generalize hA : appU _ _ _ _ = q
        obtain ⟨w', H2, rfl, h2, k2⟩ := hout.push k1 hle hA
        simp [f93, k2, kk]
        simpa using h2
      · have kk : ksort ns y = [] := by unfold ksort; rw [if_neg c2]
        simp [hf, f7, f93, e92, c2, k1, kk]
        simpa using hout
    · by_cases c2 : 0 < z
      · obtain ⟨j, rfl⟩ : ∃ j : Nat, z = (j : Int) + 1 := ⟨(z - 1).toNat, by omega⟩
        have hj : j < ns.length := by omega
        have hne : ns ≠ [] := by rintro rfl; simp at hj
        have wj : IntKind.i64.wrap (j : Int) = (j : Int) := i64w (by omega) (by omega)
        have cj : (j : Int) < ns.length := by omega
        have hs := slv_row (o := o1) hj
        have hat := at1 j hj
        have hg := h1.og
        have hb := h1.b1 hne
        have kk : ksort ns ((j : Int) + 1) = [(ns.getD j Nd.zero).sort] := by unfold ksort; rw [if_pos (by omega)]; simp
        rw [hs] at hg
        generalize (ns.getD j Nd.zero).sort = s at hat kk
        simp [hf, e0, f7, f93, e92, c2, wj, hg, cj, hb, hat]
        generalize hA : appU _ _ _ _ = q
        obtain ⟨w', H2, rfl, h2, k2⟩ := hout.push k1 hle hA
        simp [f93, k2, kk]
        simpa using h2
      · have kk : ksort ns z = [] := by unfold ksort; rw [if_neg c2]
        simp [hf, f7, f93, e92, c2, k1, kk]
        simpa using hout
  · rintro f H1 hf ⟨w, f7, f93, k1, hout⟩
    simp [f93, f7, k1]
    simpa using hout.rd
def nameBad (ns : List Nd) (n : Nd) : Bool := decide (n.name = .empty) || match vidx ns n.name with
  | some i => decide (¬ (ns.getD i Nd.zero).sort = n.sort)
  | none => false
def sortedF (ns : List Nd) (n : Nd) : Nd × Int :=
  if n.op = 1 then (n, if rightF n.vw n.vl n.vh = true ∧ n.vw = n.sort ∧ n.p = 0 ∧ n.q = 0 then 0 else 30)
  else if n.op = 2 then (n, if isSort n.sort = true ∧ n.p = 0 ∧ n.q = 0 then (if nameBad ns n then 34 else 0) else 30)
  else ({ n with sort := (sortS n.op n.p n.q (ksort ns n.a ++ ksort ns n.b ++ ksort ns n.c)).1 }, (sortS n.op n.p n.q (ksort ns n.a ++ ksort ns n.b ++ ksort ns n.c)).2)
theorem vidx_lt {ns : List Nd} {s : ByteArray} {i : Nat} (h : vidx ns s = some i) : i < ns.length := by
  unfold vidx at h
  exact (List.findIdx?_eq_some_iff_getElem.1 h).1
theorem sorted_run {H : AHeap} {g : Nat} {most : Int} {ns : List Nd} {o1 o2 o3 : Nat} (h : TG H g most ns o1 o2 o3) {n : Nd} (ha : n.a ≤ ns.length) (hb : n.b ≤ ns.length) (hc : n.c ≤ ns.length) :
    R Zcy [.ptr g 0, .agg n.cs] H = some (.tup [.agg (sortedF ns n).1.cs, .int .i64 (sortedF ns n).2], H) := by
  obtain ⟨S, hS⟩ : ∃ S, S = sortedF ns n := ⟨_, rfl⟩
  rw [← hS, Zhq]
  obtain ⟨op, sort, a, b, c, p, q, vw, vl, vh, name⟩ := n
  by_cases c1 : op = 1
  · subst c1
    have hS2 : S = (⟨1, sort, a, b, c, p, q, vw, vl, vh, name⟩, if rightF vw vl vh = true ∧ vw = sort ∧ p = 0 ∧ q = 0 then 0 else 30) := by rw [hS]; unfold sortedF; rw [if_pos rfl]
    rw [hS2]; clear hS2 hS
    cases d1 : rightF vw vl vh with
    | false => simp (maxDischargeDepth := 40) [Nd.cs, Zm, bvRight_run, d1]
    | true =>
      by_cases d2 : vw = sort
      · subst d2
        by_cases d3 : p = 0
        · subst d3
          by_cases d4 : q = 0
          · subst d4
            simp (maxDischargeDepth := 40) [Nd.cs, Zm, bvRight_run, d1]
          · simp (maxDischargeDepth := 40) [Nd.cs, Zm, bvRight_run, d1, d4]
        · simp (maxDischargeDepth := 40) [Nd.cs, Zm, bvRight_run, d1, d3]
      · simp (maxDischargeDepth := 40) [Nd.cs, Zm, bvRight_run, d1, d2]
  by_cases c2 : op = 2
  · subst c2
    have hS2 : S = (⟨2, sort, a, b, c, p, q, vw, vl, vh, name⟩, if isSort sort = true ∧ p = 0 ∧ q = 0 then (if nameBad ns ⟨2, sort, a, b, c, p, q, vw, vl, vh, name⟩ then 34 else 0) else 30) := by rw [hS]; unfold sortedF; rw [if_neg c1, if_pos rfl]
    rw [hS2]; clear hS2 hS
    cases d1 : isSort sort with
    | false => simp (maxDischargeDepth := 40) [Nd.cs, Zm, sort_run, d1]
    | true =>
      by_cases d3 : p = 0
      rotate_left
      · simp (maxDischargeDepth := 40) [Nd.cs, Zm, sort_run, d1, d3]
      subst d3
      by_cases d4 : q = 0
      rotate_left
      · simp (maxDischargeDepth := 40) [Nd.cs, Zm, sort_run, d1, d4]
      subst d4
      obtain ⟨es, cnt, m1, m2⟩ := h.b3
      have m3 := m2 name
      have og := h.og
      have hlm := h.lim
      have hlm2 := h.lim2
      have lts : g < H.size := h.lg
      have lt3 : o3 < H.size := h.l3
      have nam : nameBad ns ⟨2, sort, a, b, c, 0, 0, vw, vl, vh, name⟩ = (decide (name = ⟨#[]⟩) || match vidx ns name with | some i => decide (¬ (ns.getD i Nd.zero).sort = sort) | none => false) := rfl
      rw [nam]
      cases hv : vidx ns name with
      | none =>
        rw [hv] at m3
        cases hf : findE (.str name) es with
        | some x => rw [hf] at m3; cases m3
        | none =>
          by_cases d5 : name = ⟨#[]⟩
          · simp (maxDischargeDepth := 40) [Nd.cs, Zm, sort_run, d1, og, m1, lts, lt3, d5]
          · simp (maxDischargeDepth := 40) [Nd.cs, Zm, sort_run, d1, og, m1, hf, lts, lt3, d5]
      | some j =>
        rw [hv] at m3
        cases hf : findE (.str name) es with
        | none => rw [hf] at m3; cases m3
        | some x =>
          rw [hf] at m3
          have hx : x.val = num j := by simpa using m3
          have hj := vidx_lt hv
          have hne : ns ≠ [] := by rintro rfl; simp at hj
          have wj : IntKind.i64.wrap (j : Int) = (j : Int) := i64w (by omega) (by omega)
          have cj : (j : Int) < ns.length := by omega
          have hs := slv_row (o := o1) hj
          have hat : (flat ns)[j * 11 + 1]? = some (.int .i64 (ns.getD j Nd.zero).sort) := by
            rw [flat_get (n := ns.getD j Nd.zero) (by simp [hj]) (by omega)]; rfl
          have hb := h.b1 hne
          have lt1 := h.l1 hne
          have p1 : (0 : Int) < (j : Int) + 1 := by omega
          rw [hs] at og
          obtain ⟨s, hsd⟩ : ∃ s, s = (ns.getD j Nd.zero).sort := ⟨_, rfl⟩
          rw [← hsd] at hat
          simp only [← hsd]
          by_cases d5 : name = ⟨#[]⟩
          · simp (maxDischargeDepth := 40) [Nd.cs, Zm, sort_run, d1, og, m1, lts, lt3, d5]
          · by_cases d6 : s = sort
            · have d6' := eq_true d6
              simp (maxDischargeDepth := 40) [Nd.cs, Zm, sort_run, d1, og, m1, hf, hx, num, lts, lt3, lt1, d5, p1, wj, cj, hb, hat, d6']
            · simp (maxDischargeDepth := 40) [Nd.cs, Zm, sort_run, d1, og, m1, hf, hx, num, lts, lt3, lt1, d5, p1, wj, cj, hb, hat, d6]
  · have hS2 : S = (⟨op, (sortS op p q (ksort ns a ++ ksort ns b ++ ksort ns c)).1, a, b, c, p, q, vw, vl, vh, name⟩, (sortS op p q (ksort ns a ++ ksort ns b ++ ksort ns c)).2) := by rw [hS]; unfold sortedF; rw [if_neg c1, if_neg c2]
    obtain ⟨l, hl⟩ : ∃ l, l = ksort ns a ++ ksort ns b ++ ksort ns c := ⟨_, rfl⟩
    rw [hS2, ← hl]; clear hS2 hS
    have lts : g < H.size := h.lg
    simp (maxDischargeDepth := 40) [Nd.cs, Zm, c1, c2]
    generalize hL : loopL _ _ _ _ _ _ = r
    obtain ⟨y, e1, H1, rfl, ⟨rfl, k1, w, e7, hw⟩, fr⟩ := sorted_loop (x := a) (y := b) (z := c) (h.keep (by simp)) (Keeps.refl _) ha hb hc hL (by simp) (by simp) (by simp) (by simp)
    have hK : Keeps H H1 := Keeps.trans (by simp (maxDischargeDepth := 40)) k1
    have hlk : (ksort ns a ++ ksort ns b ++ ksort ns c).length ≤ 9223372036854775807 := by
      have := ksort_len ns a
      have := ksort_len ns b
      have := ksort_len ns c
      simp; omega
    rw [← hl] at hw hlk
    clear hl
    have o2' : H1.obj (H.size + 1) = .cells Nd.zero.cs := by
      rw [k1.obj _ (by simp)]; simp [Nd.cs, Nd.zero]
    simp only [Nd.cs, Nd.zero] at o2'
    have o1' : H1.obj H.size = .cells [.int .i64 op, .int .i64 sort, .int .i64 a, .int .i64 b, .int .i64 c, .int .i64 p, .int .i64 q, .int .i64 vw, u vl, u vh, .str name] := by
      rw [k1.obj _ (by simp)]; simp
    have sz := k1.size
    simp only [new_size] at sz
    have z1 : H.size < H1.size := by omega
    have z2 : H.size + 1 < H1.size := by omega
    have ts := termSort_pair hw hlk (op := op) (p := p) (q := q)
    simp (maxDischargeDepth := 40) [fr, e7, o1', o2', ts, pair, hK]
end Go.Proofs.YtiaoojghohfkjaaGreat
end
section
namespace Go.Proofs.YtiaoojghohfkjaaGreat
set_option maxRecDepth 100000
set_option maxHeartbeats 4000000
def Vok (ns : List Nd) : Prop := ∀ n ∈ ns, n.op = 2 → n = ⟨2, n.sort, 0, 0, 0, 0, 0, 0, 0#64, 0#64, n.name⟩
def makT (most : Int) (ns : List Nd) (n : Nd) : List Nd × Int × Int :=
  if formedF ns.length n = false then (ns, 0, 32)
  else if ¬ (sortedF ns n).2 = 0 then (ns, 0, (sortedF ns n).2)
  else match idx ns (sortedF ns n).1 with
    | some i => (ns, (i : Int) + 1, 0)
    | none => if most ≤ ns.length then (ns, 0, 33) else (ns ++ [(sortedF ns n).1], (ns.length : Int) + 1, 0)
def Kok (ns : List Nd) : Prop := ∀ (i : Nat) (n : Nd), ns[i]? = some n → (0 ≤ n.a ∧ n.a ≤ i) ∧ (0 ≤ n.b ∧ n.b ≤ i) ∧ (0 ≤ n.c ∧ n.c ≤ i)
theorem Kok.grow {ns : List Nd} {M : Nd} (h : Kok ns) (k : (0 ≤ M.a ∧ M.a ≤ ns.length) ∧ (0 ≤ M.b ∧ M.b ≤ ns.length) ∧ (0 ≤ M.c ∧ M.c ≤ ns.length)) : Kok (ns ++ [M]) := by
  intro i n hn
  by_cases c : i < ns.length
  · rw [List.getElem?_append_left c] at hn; exact h i n hn
  · rw [List.getElem?_append_right (by omega)] at hn
    have : i - ns.length = 0 := by
      have := (List.getElem?_eq_some_iff.1 hn).1
      simp at this; omega
    rw [this] at hn
    simp at hn
    subst hn
    have e : i = ns.length := by omega
    subst e; exact k
theorem formed_kids0 {ns : List Nd} {n : Nd} (h : formedF ns.length n = true) : 0 ≤ n.a ∧ 0 ≤ n.b ∧ 0 ≤ n.c := by
  unfold formedF at h
  simp only [kidsOK, Bool.and_eq_true] at h
  obtain ⟨⟨h1, h2, h3, -⟩, -⟩ := h
  have K : ∀ (i : Nat) (k : Int), kidOK ns.length (arity n.op) i k = true → 0 ≤ k := fun i k hk => by
    unfold kidOK at hk
    split at hk <;> simp at hk <;> omega
  exact ⟨K _ _ h1, K _ _ h2, K _ _ h3⟩
theorem sorted_kids (ns : List Nd) (n : Nd) : (sortedF ns n).1.a = n.a ∧ (sortedF ns n).1.b = n.b ∧ (sortedF ns n).1.c = n.c := by
  unfold sortedF
  split
  · exact ⟨rfl, rfl, rfl⟩
  · split <;> exact ⟨rfl, rfl, rfl⟩
theorem formed_kids {ns : List Nd} {n : Nd} (h : formedF ns.length n = true) : n.a ≤ ns.length ∧ n.b ≤ ns.length ∧ n.c ≤ ns.length := by
  unfold formedF at h
  simp only [kidsOK, Bool.and_eq_true] at h
  obtain ⟨⟨h1, h2, h3, -⟩, -⟩ := h
  have K : ∀ (i : Nat) (k : Int), kidOK ns.length (arity n.op) i k = true → k ≤ ns.length := fun i k hk => by
    unfold kidOK at hk
    split at hk <;> simp at hk <;> omega
  exact ⟨K _ _ h1, K _ _ h2, K _ _ h3⟩
theorem formed_var {ns : List Nd} {n : Nd} (h : formedF ns.length n = true) (h2 : n.op = 2) (hp : n.p = 0) (hq : n.q = 0) : n = ⟨2, n.sort, 0, 0, 0, 0, 0, 0, 0#64, 0#64, n.name⟩ := by
  unfold formedF at h
  obtain ⟨op, sort, a, b, c, p, q, vw, vl, vh, name⟩ := n
  simp only at h2 hp hq
  subst h2 hp hq
  have ar : arity 2 = 0 := by decide
  simp only [kidsOK, ar, kidOK] at h
  simp at h
  simp [h]
theorem vidx_some {ns : List Nd} {s : ByteArray} {i : Nat} (h : vidx ns s = some i) : ∃ m, ns[i]? = some m ∧ m ∈ ns ∧ m.op = 2 ∧ m.name = s := by
  unfold vidx at h
  obtain ⟨h1, h2, -⟩ := List.findIdx?_eq_some_iff_getElem.1 h
  simp at h2
  exact ⟨ns[i], by simp [h1], List.getElem_mem h1, h2.1, h2.2.symm⟩
theorem idx_none {ns : List Nd} {n : Nd} (h : idx ns n = none) : n ∉ ns := by
  unfold idx at h
  rw [List.findIdx?_eq_none_iff] at h
  intro hm
  have := h n hm
  simp at this
theorem var_new {ns : List Nd} {n : Nd} (hv : Vok ns) (h : formedF ns.length n = true) (h2 : n.op = 2) (hs : (sortedF ns n).2 = 0) (hi : idx ns (sortedF ns n).1 = none) : vidx ns n.name = none ∧ (sortedF ns n).1 = n ∧ n = ⟨2, n.sort, 0, 0, 0, 0, 0, 0, 0#64, 0#64, n.name⟩ := by
  have hn1 : ¬ n.op = 1 := by omega
  unfold sortedF at hs hi ⊢
  rw [if_neg hn1, if_pos h2] at hs hi ⊢
  simp only at hs hi
  split at hs
  rotate_left
  · cases hs
  rename_i hc
  have hb : nameBad ns n = false := by
    cases hb : nameBad ns n with
    | false => rfl
    | true => rw [hb] at hs; cases hs
  have hn := formed_var h h2 hc.2.1 hc.2.2
  refine ⟨?_, rfl, hn⟩
  cases hx : vidx ns n.name with
  | none => rfl
  | some i =>
    exfalso
    obtain ⟨m, m1, m2, m3, m4⟩ := vidx_some hx
    have mo := hv m m2 m3
    unfold nameBad at hb
    rw [hx] at hb
    have hg : ns.getD i Nd.zero = m := by simp [List.getD_eq_getElem?_getD, m1]
    simp only [hg] at hb
    simp at hb
    have : n = m := by rw [hn, mo, m4, hb.2]
    exact idx_none hi (this ▸ m2)
def GT (H : AHeap) (g : Nat) (most : Int) (ns : List Nd) (F : List Nat) : Prop := ∃ o1 o2 o3, TG H g most ns o1 o2 o3 ∧ Vok ns ∧ Kok ns ∧ F = g :: o2 :: o3 :: objs (slv o1 ns)
structure MvT (F : List Nat) (H : AHeap) (F' : List Nat) (H' : AHeap) : Prop where
  fr : Fr F H H'
  new : ∀ p, p ∈ F' → p ∈ F ∨ H.size ≤ p
theorem MvT.refl (F : List Nat) (H : AHeap) : MvT F H F H := ⟨Fr.refl _ _, fun _ h => .inl h⟩
theorem MvT.keeps {F : List Nat} {H H' : AHeap} (k : Keeps H H') : MvT F H F H' := ⟨k.fr F, fun _ h => .inl h⟩
theorem MvT.trans {F G E : List Nat} {A B D : AHeap} (h : MvT F A G B) (k : MvT G B E D) : MvT F A E D := by
  refine ⟨h.fr.trans k.fr h.new, fun p hp => ?_⟩
  rcases k.new p hp with h1 | h1
  · exact h.new p h1
  · exact .inr (Nat.le_trans h.fr.size h1)
def GvT (H : AHeap) (g : Nat) (most : Int) (F : List Nat) (x : List Nd × Int × Int) (r : Option (AV × AHeap)) : Prop :=
  ∃ H' F', r = some (.tup [.int .i64 x.2.1, .int .i64 x.2.2], H') ∧ GT H' g most x.1 F' ∧ MvT F H F' H'
theorem GvT.mk {H H' : AHeap} {g : Nat} {most l e : Int} {F : List Nat} {x : List Nd × Int × Int} {js : List Nd} {r : Option (AV × AHeap)} (h : some (.tup [.int .i64 l, .int .i64 e], H') = r) (hx : x = (js, l, e)) (F' : List Nat) (g' : GT H' g most js F') (k : MvT F H F' H') : GvT H g most F x r := by
  subst hx; exact ⟨H', F', h.symm, g', k⟩
theorem GT.keeps {H H' : AHeap} {g : Nat} {most : Int} {ns : List Nd} {F : List Nat} (h : GT H g most ns F) (k : Keeps H H') : GT H' g most ns F := by
  obtain ⟨o1, o2, o3, t, v, kk, rfl⟩ := h
  exact ⟨o1, o2, o3, t.keep k, v, kk, rfl⟩
theorem tell2 {es : List AEnt} {ns : List Nd} {M : Nd} {c : Nat} (i2 : ∀ n : Nd, (findE (.agg n.cs) es).map (·.val) = (idx ns n).map num) (n : Nd) : (findE (.agg n.cs) (es ++ [⟨.agg M.cs, num ns.length, c⟩])).map (·.val) = (idx (ns ++ [M]) n).map num := by
  have h := i2 n
  rw [findE_append, idx_append, keyEq_nd]
  cases hf : findE (.agg n.cs) es <;> cases hi : idx ns n <;> rw [hf, hi] at h <;> first | (cases h; done) | skip
  · by_cases e : n = M <;> simp [e]
  · simpa using h
theorem tell3 {es : List AEnt} {ns : List Nd} {M : Nd} {c : Nat} (hM : M.op = 2) (i3 : ∀ s, (findE (.str s) es).map (·.val) = (vidx ns s).map num) (s : ByteArray) : (findE (.str s) (es ++ [⟨.str M.name, num ns.length, c⟩])).map (·.val) = (vidx (ns ++ [M]) s).map num := by
  have h := i3 s
  have hk : keyEq (.str s) (.str M.name) = decide (s = M.name) := by simp [keyEq]
  rw [findE_append, vidx_append, hk]
  cases hf : findE (.str s) es <;> cases hi : vidx ns s <;> rw [hf, hi] at h <;> first | (cases h; done) | skip
  · by_cases e : s = M.name <;> simp [e, hM]
  · simpa using h
theorem tell3' {es : List AEnt} {ns : List Nd} {M : Nd} (hM : ¬ M.op = 2) (i3 : ∀ s, (findE (.str s) es).map (·.val) = (vidx ns s).map num) (s : ByteArray) : (findE (.str s) es).map (·.val) = (vidx (ns ++ [M]) s).map num := by
  rw [vidx_append, i3 s, if_neg (by simp [hM])]; simp
theorem grow {H H' : AHeap} {g : Nat} {most : Int} {ns : List Nd} {o1 o2 o3 o : Nat} {M : Nd} (t : TG H g most ns o1 o2 o3) (v : Vok ns) (kok : Kok (ns ++ [M])) (hm : M.op = 2 → M = ⟨2, M.sort, 0, 0, 0, 0, 0, 0, 0#64, 0#64, M.name⟩) (lim : (ns.length : Int) < most) (sz : H.size ≤ H'.size) (ho : H.size ≤ o) (ho' : o < H'.size)
    (hg : H'.obj g = .cells [.int .i64 most, .row o 0 11 (ns.length + 1) false, .map o2, .map o3]) (ho1 : H'.obj o = .cells (flat ns ++ M.cs))
    (h2 : ∃ es c, H'.obj o2 = .map shN' es c ∧ ∀ n : Nd, (findE (.agg n.cs) es).map (·.val) = (idx (ns ++ [M]) n).map num) (h3 : ∃ es c, H'.obj o3 = .map (.one .s) es c ∧ ∀ s, (findE (.str s) es).map (·.val) = (vidx (ns ++ [M]) s).map num) : GT H' g most (ns ++ [M]) [g, o2, o3, o] := by
  have hs : slv o (ns ++ [M]) = .row o 0 11 (ns.length + 1) false := by unfold slv; rw [if_neg (by simp)]; simp
  have lg := t.lg
  have l2 := t.l2
  have l3 := t.l3
  refine ⟨o, o2, o3, ⟨by omega, fun _ => ho', by omega, by omega, by rw [hs]; exact hg, fun _ => by rw [flat_append]; exact ho1, h2, h3, fun _ => by omega, t.n2, t.n3, fun _ => by omega, fun _ => by omega, t.n23, by simp; omega, t.lim2⟩, ?_, kok, by rw [hs]; simp⟩
  intro n hn
  simp at hn
  rcases hn with hn | rfl
  · exact v n hn
  · exact hm
theorem back_not {z : List Nat} {H H' : AHeap} {v : AV} (h : ¬ Shut H H') : back z H v H' = (v, H') := by unfold back; rw [if_neg (fun h2 => h h2.2)]
theorem mk_run {H : AHeap} {g : Nat} {most : Int} {ns : List Nd} {F : List Nat} (G : GT H g most ns F) {n : Nd} {r : Option (AV × AHeap)} (h : R Zu [.ptr g 0, .agg n.cs] H = r) : GvT H g most F (makT most ns n) r := by
  obtain ⟨o1, o2, o3, t, v, kok, rfl⟩ := id G
  rw [Zhz] at h
  have k0 := Keeps.new H (.cells n.cs)
  have hfm := formed_run (t.keep k0) (n := n)
  cases c1 : formedF ns.length n with
  | false =>
    rw [c1] at hfm
    simp (maxDischargeDepth := 40) [Zb2, Nd.cs] at h hfm
    simp (maxDischargeDepth := 40) [hfm] at h
    exact GvT.mk h (by unfold makT; rw [if_pos c1]) _ (G.keeps (by simp (maxDischargeDepth := 40))) (MvT.keeps (by simp (maxDischargeDepth := 40)))
  | true =>
    rw [c1] at hfm
    obtain ⟨ka, kb, kc⟩ := formed_kids c1
    have hsr := sorted_run (t.keep k0) ka kb kc
    have hnew := fun h2 h3 h4 => var_new v c1 h2 h3 h4
    have hmk : makT most ns n = if ¬ (sortedF ns n).2 = 0 then (ns, 0, (sortedF ns n).2) else match idx ns (sortedF ns n).1 with
      | some i => (ns, (i : Int) + 1, 0)
      | none => if most ≤ ns.length then (ns, 0, 33) else (ns ++ [(sortedF ns n).1], (ns.length : Int) + 1, 0) := by
      unfold makT; rw [if_neg (by simp [c1])]
    rw [hmk]
    clear hmk
    have lg := t.lg
    have l2 := t.l2
    have l3 := t.l3
    have ne2 := t.n2
    have ne3 := t.n3
    have ne23 := t.n23
    have og := t.og
    have hlen := slv_len o1 ns
    have lim := t.lim
    have lim2 := t.lim2
    obtain ⟨es2, cn2, b2, i2⟩ := t.b2
    obtain ⟨es3, cn3, b3, i3⟩ := t.b3
    have kb0 : ∀ m : Nd, Keeps H ((H.new (.cells n.cs)).set H.size (.cells m.cs)) := fun m => by simp (maxDischargeDepth := 40)
    have hkk : (0 ≤ (sortedF ns n).1.a ∧ (sortedF ns n).1.a ≤ ns.length) ∧ (0 ≤ (sortedF ns n).1.b ∧ (sortedF ns n).1.b ≤ ns.length) ∧ (0 ≤ (sortedF ns n).1.c ∧ (sortedF ns n).1.c ≤ ns.length) := by
      obtain ⟨s1, s2, s3⟩ := sorted_kids ns n
      obtain ⟨f1, f2, f3⟩ := formed_kids0 c1
      rw [s1, s2, s3]
      exact ⟨⟨f1, ka⟩, ⟨f2, kb⟩, ⟨f3, kc⟩⟩
    have kok' := kok.grow hkk
    have hop : (sortedF ns n).1.op = n.op := by unfold sortedF; split <;> first | rfl | (split <;> rfl)
    generalize hS : sortedF ns n = S at *
    obtain ⟨m, e⟩ := S
    have hm2 := i2 m
    clear hkk
    have hnm : e = 0 → m.op = 2 → idx ns m = none → vidx ns m.name = none ∧ m = ⟨2, m.sort, 0, 0, 0, 0, 0, 0, 0#64, 0#64, m.name⟩ := fun he h2 hi => by
      obtain ⟨a1, a2, a3⟩ := hnew (hop ▸ h2) he hi
      have a2' : m = n := a2
      rw [a2']; exact ⟨a1, a3⟩
    clear hnew hop
    obtain ⟨M, hM⟩ : ∃ M, M = m := ⟨_, rfl⟩
    rw [show ((m, e) : Nd × Int).1 = M from hM.symm] at kok'
    obtain ⟨op, sort, a, b, c, p, q, vw, vl, vh, name⟩ := n
    obtain ⟨op', sort', a', b', c', p', q', vw', vl', vh', name'⟩ := m
    simp only [Nd.cs] at h hfm hsr hm2
    simp only [shN'] at b2
    by_cases c2 : e = 0
    rotate_left
    · simp (maxDischargeDepth := 40) [Zb2, hfm, hsr, c2] at h
      exact GvT.mk h (by simp [c2]) _ (G.keeps (by simp (maxDischargeDepth := 40))) (MvT.keeps (by simp (maxDischargeDepth := 40)))
    subst c2
    cases hi : idx ns M with
    | some j =>
      rw [← hM, hi] at hm2
      simp only [Option.map_some, Option.map_eq_some_iff] at hm2
      obtain ⟨x, hx1, hx2⟩ := hm2
      have p1 : (0 : Int) < (j : Int) + 1 := by omega
      simp (maxDischargeDepth := 40) [Zb2, hfm, hsr, og, b2, hx1, hx2, num, lg, l2, p1] at h
      exact GvT.mk h (by simp [← hM, hi]) _ (G.keeps (by simp (maxDischargeDepth := 40))) (MvT.keeps (by simp (maxDischargeDepth := 40)))
    | none =>
      rw [← hM, hi] at hm2
      simp only [Option.map_none, Option.map_eq_none_iff] at hm2
      by_cases c3 : most ≤ ns.length
      · simp (maxDischargeDepth := 40) [Zb2, hfm, hsr, og, b2, hm2, lg, l2, hlen, c3] at h
        exact GvT.mk h (by simp [← hM, hi, c3]) _ (G.keeps (by simp (maxDischargeDepth := 40))) (MvT.keeps (by simp (maxDischargeDepth := 40)))
      · simp (maxDischargeDepth := 40) [Zb2, hfm, hsr, og, b2, hm2, lg, l2, hlen, c3] at h
        generalize hH1 : AHeap.set _ _ _ = H1 at h
        have k1 : Keeps H H1 := by rw [← hH1]; simp (maxDischargeDepth := 40)
        have z1 : H1.size = H.size + 1 := by rw [← hH1]; simp
        have c8 : H1.obj H.size = .cells M.cs := by rw [← hH1, hM]; simp [Nd.cs]
        clear hH1
        generalize hA : appU _ _ _ _ = q1 at h
        have t1 := t.keep (k1.new' (.cells M.cs))
        have hob : ∀ p, p ∈ objs (slv o1 ns) → ns ≠ [] ∧ p = o1 := fun p hp => by
          unfold slv at hp
          split at hp
          · simp at hp
          · rename_i hne; simp at hp; exact ⟨hne, hp⟩
        have hcs : [AV.int .i64 op', .int .i64 sort', .int .i64 a', .int .i64 b', .int .i64 c', .int .i64 p', .int .i64 q', .int .i64 vw', u vl', u vh', .str name'] = M.cs := by rw [hM]; rfl
        rw [hcs, ← z1] at hA
        obtain ⟨H2, rfl, f2, s2, oo, -⟩ := app_of hA (slv_reads t1.l1 t1.b1) (slv_grows _ _) (Reads.row' (all := M.cs) (by simp) (by simp) (by simp)) (by omega) rfl (by omega) (by omega) (by omega) (by simp [Nd.cs])
        simp only [new_size, z1] at s2 oo
        have F2 : ∀ p, p < H.size → (ns ≠ [] → p ≠ o1) → H2.obj p = H.obj p := fun p hp hne => by
          rw [f2.obj p (by simp; omega) (fun hh => hne (hob p hh).1 (hob p hh).2)]
          exact (k1.new' _).obj p hp
        have g2 : H2.obj g = .cells [.int .i64 most, slv o1 ns, .map o2, .map o3] := (F2 g lg t.n1).trans og
        have m2 := (F2 o2 l2 (fun e he => t.n12 e he.symm)).trans b2
        have m3 := (F2 o3 l3 (fun e he => t.n13 e he.symm)).trans b3
        have x2 : H2.obj H.size = .cells M.cs := by
          rw [f2.obj H.size (by simp; omega) (fun hh => by have := t.l1 (hob _ hh).1; have := (hob _ hh).2; omega)]
          rw [(Keeps.new H1 _).obj _ (by omega)]; exact c8
        rw [← hcs] at x2
        have ng : ¬ g = H.size := Nat.ne_of_lt lg
        have n2 : ¬ o2 = H.size := Nat.ne_of_lt l2
        have n3 : ¬ o3 = H.size := Nat.ne_of_lt l3
        have sz1 : H2.size = H.size + 3 := by omega
        have lg2 : g < H2.size := by omega
        have l22 : o2 < H2.size := by omega
        have l32 : o3 < H2.size := by omega
        have lim' : (ns.length : Int) < most := by omega
        have hres : (if ¬ (M, (0 : Int)).2 = 0 then (ns, (0 : Int), (M, (0 : Int)).2) else match idx ns (M, (0 : Int)).1 with
          | some i => (ns, (i : Int) + 1, 0)
          | none => if most ≤ ns.length then (ns, 0, 33) else (ns ++ [(M, (0 : Int)).1], (ns.length : Int) + 1, 0)) = (ns ++ [M], (ns.length : Int) + 1, 0) := by simp [hi, c3]
        have hMd : (⟨op', sort', a', b', c', p', q', vw', vl', vh', name'⟩ : Nd) = M := hM.symm
        rw [hMd, hres]
        have hop : M.op = op' := by rw [hM]
        have hname : M.name = name' := by rw [hM]
        have hnm' := fun e2 => hnm rfl e2 (hM ▸ hi)
        rw [hMd] at hnm'
        by_cases c4 : op' = 2
        · obtain ⟨v1, v2⟩ := hnm' (hop.trans c4)
          have hv3 := i3 name'
          rw [← hname, v1, hname] at hv3
          simp only [Option.map_none, Option.map_eq_none_iff] at hv3
          have hm2' := hm2
          rw [c4] at hm2'
          simp (maxDischargeDepth := 40) [g2, m2, m3, x2, Ne.symm ng, Ne.symm n2, hm2', hv3, c4, ne2, ne2.symm, ne3.symm, ne23.symm] at h
          generalize hH3 : AHeap.set _ _ _ = H3 at h
          have og3 : H3.obj g = .cells [.int .i64 most, .row (H1.size + 1) 0 11 (ns.length + 1) false, .map o2, .map o3] := by
            rw [← hH3]; simp [ne2, ne3]
          have oh3 : H3.obj (H1.size + 1) = .cells (flat ns ++ M.cs) := by
            have a1 : ¬ H1.size + 1 = g := by omega
            have a2 : ¬ H1.size + 1 = o2 := by omega
            have a3 : ¬ H1.size + 1 = o3 := by omega
            rw [← hH3]; simp [a1, a2, a3]; rw [z1]; exact oo
          have om2 : H3.obj o2 = .map shN' (es2 ++ [⟨.agg M.cs, num ns.length, cn2⟩]) (cn2 + 1) := by
            rw [← hH3, ← hcs]; simp [ne23, shN', num, c4]
          have om3 : H3.obj o3 = .map (.one .s) (es3 ++ [⟨.str M.name, num ns.length, cn3⟩]) (cn3 + 1) := by
            rw [← hH3]; simp [hname, num]
          have sz3 : H3.size = H.size + 3 := by rw [← hH3]; simp [sz1]
          have fr3 : Fr (g :: o2 :: o3 :: objs (slv o1 ns)) H H3 := by
            rw [← hH3]
            exact ((((k1.new' _).fr _).trans f2 (fun p hp => .inl (by simp [hp]))).set (.inl (by simp)) _ |>.set (.inl (by simp)) _ |>.set (.inl (by simp)) _)
          clear hH3
          have hns : ¬ Shut H H3 := fun hsh => by
            rcases hsh.obj g lg with e | e
            · rw [og3, og] at e
              have e2 : slv o1 ns = .row (H1.size + 1) 0 11 (ns.length + 1) false := by
                simp only [AObj.cells.injEq, List.cons.injEq] at e; exact e.2.1.symm
              unfold slv at e2
              split at e2
              · cases e2
              · simp at e2
            · rw [og3] at e
              simp [closedO] at e
              omega
          rw [back_not hns] at h
          refine GvT.mk h rfl [g, o2, o3, H1.size + 1] (grow t v kok' (fun e2 => (hnm' e2).2) lim' (by omega) (by omega) (by omega) og3 oh3 ⟨_, _, om2, tell2 i2⟩ ⟨_, _, om3, tell3 (hop.trans c4) i3⟩) ⟨fr3, fun p hp => ?_⟩
          simp at hp ⊢
          rcases hp with hp | hp | hp | hp
          · simp [hp]
          · simp [hp]
          · simp [hp]
          · right; omega
        · simp (maxDischargeDepth := 40) [g2, m2, x2, Ne.symm ng, Ne.symm n2, hm2, c4, ne2.symm] at h
          generalize hH3 : AHeap.set _ _ _ = H3 at h
          have og3 : H3.obj g = .cells [.int .i64 most, .row (H1.size + 1) 0 11 (ns.length + 1) false, .map o2, .map o3] := by
            rw [← hH3]; simp [ne2]
          have oh3 : H3.obj (H1.size + 1) = .cells (flat ns ++ M.cs) := by
            have a1 : ¬ H1.size + 1 = g := by omega
            have a2 : ¬ H1.size + 1 = o2 := by omega
            have a3 : ¬ H1.size + 1 = o3 := by omega
            rw [← hH3]; simp [a1, a2]; rw [z1]; exact oo
          have om2 : H3.obj o2 = .map shN' (es2 ++ [⟨.agg M.cs, num ns.length, cn2⟩]) (cn2 + 1) := by
            rw [← hH3, ← hcs]; simp [shN', num]
          have om3 : H3.obj o3 = .map (.one .s) es3 cn3 := by
            rw [← hH3]; simp [ne3.symm, ne23.symm, m3]
          have sz3 : H3.size = H.size + 3 := by rw [← hH3]; simp [sz1]
          have fr3 : Fr (g :: o2 :: o3 :: objs (slv o1 ns)) H H3 := by
            rw [← hH3]
            exact ((((k1.new' _).fr _).trans f2 (fun p hp => .inl (by simp [hp]))).set (.inl (by simp)) _ |>.set (.inl (by simp)) _)
          clear hH3
          have hns : ¬ Shut H H3 := fun hsh => by
            rcases hsh.obj g lg with e | e
            · rw [og3, og] at e
              have e2 : slv o1 ns = .row (H1.size + 1) 0 11 (ns.length + 1) false := by
                simp only [AObj.cells.injEq, List.cons.injEq] at e; exact e.2.1.symm
              unfold slv at e2
              split at e2
              · cases e2
              · simp at e2
            · rw [og3] at e
              simp [closedO] at e
              omega
          rw [back_not hns] at h
          refine GvT.mk h rfl [g, o2, o3, H1.size + 1] (grow t v kok' (fun e2 => (hnm' e2).2) lim' (by omega) (by omega) (by omega) og3 oh3 ⟨_, _, om2, tell2 i2⟩ ⟨_, _, om3, tell3' (fun e => c4 (hop.symm.trans e)) i3⟩) ⟨fr3, fun p hp => ?_⟩
          simp at hp ⊢
          rcases hp with hp | hp | hp | hp
          · simp [hp]
          · simp [hp]
          · simp [hp]
          · right; omega
end Go.Proofs.YtiaoojghohfkjaaGreat
end
section
namespace Go.Proofs.YtiaoojghohfkjaaGreat
set_option maxRecDepth 100000
set_option maxHeartbeats 4000000
theorem tnew_run {n : Int} {H : AHeap} {r : Option (AV × AHeap)} (h : R Zgg [.int .i64 n] H = r) : ∃ H' g F, r = some (.ptr g 0, H') ∧ GT H' g (min (max n 1) 4096) [] F ∧ Keeps H H' ∧ ∀ p, p ∈ F → H.size ≤ p := by
  rw [Zmw] at h
  simp [Zlg] at h
  rw [back_open (by simp [closed])] at h
  subst h
  refine ⟨_, H.size + 2, [H.size + 2, H.size, H.size + 1], rfl, ⟨0, H.size, H.size + 1, ⟨by simp, by simp, by simp, by simp, by simp [slv], by simp, ⟨[], 0, by simp [shN'], fun n => by simp [findE, idx]⟩, ⟨[], 0, by simp, fun n => by simp [findE, vidx]⟩, by simp, by omega, by omega, by simp, by simp, by omega, by show (0 : Int) ≤ _; omega, by omega⟩, (fun n hn => by cases hn), (fun i n hn => by rw [List.getElem?_nil] at hn; cases hn), by simp [slv]⟩, by simp (maxDischargeDepth := 40), fun p hp => by simp at hp; omega⟩
def varsT (ns : List Nd) (i : Nat) : List Int := ((List.range i).filter fun j => decide ((ns.getD j Nd.zero).op = 2)).map fun (j : Nat) => (j : Int) + 1
theorem varsT_succ (ns : List Nd) (i : Nat) : varsT ns (i + 1) = varsT ns i ++ (if (ns.getD i Nd.zero).op = 2 then [(i : Int) + 1] else []) := by
  simp only [varsT, List.range_succ, List.filter_append, List.map_append]
  congr 1
  by_cases h : (ns.getD i Nd.zero).op = 2
  · simp only [List.filter_cons, List.filter_nil, h, decide_true, if_true, List.map_cons, List.map_nil]
  · simp only [List.filter_cons, List.filter_nil, h, decide_false, if_false, Bool.false_eq_true, List.map_nil]
theorem varsT_len (ns : List Nd) (i : Nat) : (varsT ns i).length ≤ i := by
  unfold varsT
  rw [List.length_map]
  exact Nat.le_trans (List.length_filter_le _ _) (by simp)
theorem OutT.keep {H0 H H' : AHeap} {v : AV} {l : List Int} (h : OutT H0 H v l) (k : Keeps H H') : OutT H0 H' v l := ⟨h.rd.keep k, h.gr, h.new⟩
theorem vars_loop {H : AHeap} {g : Nat} {most : Int} {ns : List Nd} {o1 o2 o3 : Nat} (h : TG H g most ns o1 o2 o3) {e : Env} {r : Rn} (hL : loopL Tryz.prog KT R Zb7 e H = r)
    (e3 : e 3 = some .nils) (e9 : e 9 = some (slv o1 ns)) (e10 : e 10 = some (.int .i64 ns.length)) (e11 : e 11 = some (.int .i64 0)) :
    ∃ y' e' H', r = some (y', e', H') ∧ (y' = .exit 0 ∧ Keeps H H' ∧ ∃ w, e' 3 = some w ∧ OutT H H' w (varsT ns ns.length)) ∧ ∀ t, t ∉ defs Zb7 → e' t = e t := by
  have hl := h.lim
  have hl2 := h.lim2
  refine loop_count Zb7.eq_1 hL ns.length (fun i e1 H1 => ∃ w, e1 3 = some w ∧ e1 11 = some (.int .i64 i) ∧ Keeps H H1 ∧ OutT H H1 w (varsT ns i)) _ 0 (by omega) ⟨.nils, e3, e11, Keeps.refl _, ⟨by simpa [varsT] using RI.nils, by simp, by simp⟩⟩ ?_ ?_
  · rintro i f H1 hf - hi ⟨w, f3, f11, k1, hout⟩
    have hw1 := i64w (n := (i : Int) + 1) (by omega) (by omega)
    have hc : (i : Int) < ns.length := by omega
    have hne : ns ≠ [] := by rintro rfl; simp at hi
    have hle := varsT_len ns i
    have hs := slv_row (o := o1) hi
    have hb := h.b1 hne
    have lt1 := h.l1 hne
    have hb1 : ∀ H2, Keeps H H2 → H2.obj o1 = .cells (flat ns) := fun H2 k => (k.obj _ lt1).trans hb
    rw [hs] at e9
    obtain ⟨n, hn⟩ : ∃ n, ns[i]? = some n := ⟨ns[i], by simp [hi]⟩
    have hat := flat_at hn
    have hfl := flat_len ns
    have hle2 : i * 11 + 11 ≤ ns.length * 11 := by omega
    have hg : ns.getD i Nd.zero = n := by simp [List.getD_eq_getElem?_getD, hn]
    rw [varsT_succ, hg]
    obtain ⟨op, sort, a, b, c, p, q, vw, vl, vh, name⟩ := n
    simp only [Nd.cs] at hat
    by_cases c2 : op = 2
    · simp (maxDischargeDepth := 40) [hf, f3, f11, e9, e10, hc, hb1, k1, hfl, hle2, hat, c2, hw1]
      generalize hH2 : AHeap.set _ _ _ = H2
      have K1 : Keeps H1 H2 := by rw [← hH2]; simp (maxDischargeDepth := 40)
      have z2 : H2.size = H1.size + 1 := by rw [← hH2]; simp
      clear hH2
      generalize hA : appU _ _ _ _ = q1
      rw [← z2] at hA
      obtain ⟨w', H3, rfl, h3, k3⟩ := (hout.keep K1).push (k1.trans K1) (by omega) hA
      simp [f11, hw1, k3]
      exact h3
    · simp (maxDischargeDepth := 40) [hf, f3, f11, e9, e10, hc, hb1, k1, hfl, hle2, hat, c2, hw1]
      generalize hH2 : AHeap.set _ _ _ = H2
      have K1 : Keeps H1 H2 := by rw [← hH2]; simp (maxDischargeDepth := 40)
      exact ⟨k1.trans K1, hout.keep K1⟩
  · rintro f H1 hf ⟨w, f3, f11, k1, hout⟩
    simp [hf, f3, f11, e10, k1]
    exact hout
end Go.Proofs.YtiaoojghohfkjaaGreat
end
section
namespace Go.Proofs.YtiaoojghohfkjaaGreat
set_option maxRecDepth 100000
theorem idx_more {ns ks : List Nd} {n : Nd} {i : Nat} (h : idx ns n = some i) : idx (ns ++ ks) n = some i := by
  unfold idx at h ⊢
  rw [List.findIdx?_append, h]; rfl
theorem vidx_more {ns ks : List Nd} {s : ByteArray} {i : Nat} (h : vidx ns s = some i) : vidx (ns ++ ks) s = some i := by
  unfold vidx at h ⊢
  rw [List.findIdx?_append, h]; rfl
theorem kidOK_more {N N' a : Int} {i : Nat} {k : Int} (hN : N ≤ N') (h : kidOK N a i k = true) : kidOK N' a i k = true := by
  unfold kidOK at h ⊢
  split at h <;> simp at h ⊢ <;> simp [*] <;> omega
theorem formed_more {N N' : Int} {n : Nd} (hN : N ≤ N') (h : formedF N n = true) : formedF N' n = true := by
  unfold formedF at h ⊢
  simp only [kidsOK, Bool.and_eq_true] at h ⊢
  obtain ⟨⟨h1, h2, h3, h4⟩, h5⟩ := h
  exact ⟨⟨kidOK_more hN h1, kidOK_more hN h2, kidOK_more hN h3, h4⟩, h5⟩
theorem ksort_more {ns ks : List Nd} {k : Int} (h : k ≤ ns.length) : ksort (ns ++ ks) k = ksort ns k := by
  unfold ksort
  split
  · rename_i hk
    have : (k - 1).toNat < ns.length := by omega
    rw [List.getD_eq_getElem?_getD, List.getD_eq_getElem?_getD, List.getElem?_append_left this]
  · rfl
theorem nameBad_more {ns ks : List Nd} {n : Nd} {i : Nat} (hv : vidx ns n.name = some i) (h : nameBad ns n = false) : nameBad (ns ++ ks) n = false := by
  unfold nameBad at h ⊢
  rw [hv] at h
  rw [vidx_more hv]
  have hi := vidx_lt hv
  simp only [List.getD_eq_getElem?_getD, List.getElem?_append_left hi] at h ⊢
  exact h
theorem sorted_more {ns ks : List Nd} {n M : Nd} (hf : formedF ns.length n = true) (hs : sortedF ns n = (M, 0)) (hv : n.op = 2 → ∃ i, vidx ns n.name = some i) : sortedF (ns ++ ks) n = (M, 0) := by
  obtain ⟨ka, kb, kc⟩ := formed_kids hf
  unfold sortedF at hs ⊢
  by_cases c1 : n.op = 1
  · rw [if_pos c1] at hs ⊢; exact hs
  rw [if_neg c1] at hs ⊢
  by_cases c2 : n.op = 2
  · rw [if_pos c2] at hs ⊢
    obtain ⟨i, hi⟩ := hv c2
    have hM : n = M := congrArg Prod.fst hs
    have h2 := congrArg Prod.snd hs
    simp only at h2
    split at h2
    rotate_left
    · cases h2
    rename_i hc
    cases hb : nameBad ns n with
    | true => rw [hb] at h2; cases h2
    | false =>
      rw [if_pos hc, nameBad_more hi hb, ← hM]; rfl
  · rw [if_neg c2] at hs ⊢
    rw [ksort_more ka, ksort_more kb, ksort_more kc]
    exact hs
theorem vidx_of_mem {ns : List Nd} {n : Nd} (h : n ∈ ns) (h2 : n.op = 2) : ∃ i, vidx ns n.name = some i := by
  cases hv : vidx ns n.name with
  | some i => exact ⟨i, rfl⟩
  | none =>
    unfold vidx at hv
    rw [List.findIdx?_eq_none_iff] at hv
    have := hv n h
    simp [h2] at this
theorem idx_mem {ns : List Nd} {n : Nd} {i : Nat} (h : idx ns n = some i) : n ∈ ns ∧ i < ns.length := by
  unfold idx at h
  obtain ⟨h1, h2, -⟩ := List.findIdx?_eq_some_iff_getElem.1 h
  simp at h2
  exact ⟨by rw [h2]; exact List.getElem_mem h1, h1⟩
structure Made (ns : List Nd) (n M : Nd) (i : Nat) : Prop where
  formed : formedF ns.length n = true
  sorted : sortedF ns n = (M, 0)
  at' : idx ns M = some i
theorem sorted_op {ns : List Nd} {n M : Nd} {e : Int} (h : sortedF ns n = (M, e)) : M.op = n.op ∧ (n.op = 2 → M = n) := by
  unfold sortedF at h
  split at h
  · have : n = M := congrArg Prod.fst h
    subst this; exact ⟨rfl, fun _ => rfl⟩
  · split at h
    · have : n = M := congrArg Prod.fst h
      subst this; exact ⟨rfl, fun _ => rfl⟩
    · rename_i h2
      have := congrArg Prod.fst h
      simp only at this
      subst this; exact ⟨rfl, fun h => absurd h h2⟩
theorem Made.more {ns ks : List Nd} {n M : Nd} {i : Nat} (h : Made ns n M i) : Made (ns ++ ks) n M i := by
  refine ⟨formed_more (by rw [List.length_append]; omega) h.formed, sorted_more h.formed h.sorted fun h2 => ?_, idx_more h.at'⟩
  have hM := (sorted_op h.sorted).2 h2
  have := (idx_mem h.at').1
  rw [hM] at this
  exact vidx_of_mem this h2
theorem Made.make {most : Int} {ns : List Nd} {n M : Nd} {i : Nat} (h : Made ns n M i) : makT most ns n = (ns, (i : Int) + 1, 0) := by
  unfold makT
  rw [if_neg (by simp [h.formed]), h.sorted]
  simp [h.at']
end Go.Proofs.YtiaoojghohfkjaaGreat
end
section
namespace Go.Proofs.YtiaoojghohfkjaaGreat
def NL (l : List Nd) : AV := .lst 11 l.length (flat l)
theorem GvT.go {H : AHeap} {g : Nat} {most : Int} {F : List Nat} {ns js : List Nd} {n : Nd} {l e : Int} (G : GT H g most ns F) (hx : makT most ns n = (js, l, e)) {r : Option (AV × AHeap)} (h : R Zu [.ptr g 0, .agg n.cs] H = r) :
    ∃ H' F', r = some (.tup [.int .i64 l, .int .i64 e], H') ∧ GT H' g most js F' ∧ MvT F H F' H' := by
  have := mk_run G h
  rw [hx] at this
  exact this
end Go.Proofs.YtiaoojghohfkjaaGreat
end
section
namespace Go.Proofs.YtiaoojghohfkjaaGreat
set_option maxRecDepth 100000
set_option maxHeartbeats 4000000
theorem marks_set {v : List Bool} {j : Nat} : (v.map AV.bool).set j (.bool true) = (v.set j true).map AV.bool := by rw [List.map_set]
theorem marks_at {v : List Bool} {j : Nat} (hj : j < v.length) : (v.map AV.bool)[j]? = some (.bool (v.getD j false)) := by simp [List.getD_eq_getElem?_getD, hj]
def mark1T (ns : List Nd) (n : Nat) (v : List Bool) : List Bool :=
  if v.getD (n + 1) false then ((v.set (ns.getD n Nd.zero).a.toNat true).set (ns.getD n Nd.zero).b.toNat true).set (ns.getD n Nd.zero).c.toNat true else v
def markT (ns : List Nd) : Nat → List Bool → List Bool
  | 0, v => v
  | n + 1, v => markT ns n (mark1T ns n v)
theorem mark1T_len (ns : List Nd) (n : Nat) (v : List Bool) : (mark1T ns n v).length = v.length := by unfold mark1T; split <;> simp
theorem markT_len (ns : List Nd) : ∀ (n : Nat) (v : List Bool), (markT ns n v).length = v.length
  | 0, _ => rfl
  | n + 1, v => by rw [markT, markT_len, mark1T_len]
def outT (v : List Bool) (i : Nat) : List Int := ((List.range i).filter fun n => decide (1 ≤ n) && v.getD n false).map fun (n : Nat) => (n : Int)
theorem outT_one (v : List Bool) : outT v 1 = [] := by simp [outT, List.range_succ]
theorem outT_succ (v : List Bool) {i : Nat} (hi : 1 ≤ i) : outT v (i + 1) = outT v i ++ (if v.getD i false = true then [(i : Int)] else []) := by
  simp only [outT, List.range_succ, List.filter_append, List.map_append]
  congr 1
  have e : decide (1 ≤ i) = true := by simpa using hi
  simp only [List.filter_cons, e, Bool.true_and]
  split <;> simp
theorem outT_len (v : List Bool) (i : Nat) : (outT v i).length ≤ i := by
  unfold outT
  rw [List.length_map]
  exact Nat.le_trans (List.length_filter_le _ _) (by simp)
def coneM (ns : List Nd) (n : Nat) : List Bool := markT ns n ((List.replicate (n + 1) false).set n true)
def coneT (ns : List Nd) (id : Int) : List Int := if id < 1 ∨ (ns.length : Int) < id then [] else outT (coneM ns id.toNat) (id.toNat + 1)
theorem tcone_loop0 {H0 H : AHeap} {g : Nat} {most : Int} {ns : List Nd} {o1 o2 o3 : Nat} (t : TG H0 g most ns o1 o2 o3) (kok : Kok ns) {e : Env} {r : Rn} (hL : loopL Tryz.prog KT R Zb8 e H = r)
    (k0 : Keeps H0 H) (z : H0.size < H.size) {n len : Nat} {v : List Bool} (hl : v.length = len) (hn : n < len) (hnk : n ≤ ns.length) (hv : H.obj H0.size = .cells (v.map .bool))
    (e0 : e 0 = some (.ptr g 0)) (e5 : e 5 = some (.row H0.size 0 1 len true)) (e6 : e 6 = some (.int .i64 0)) (e7 : e 7 = some (.int .i64 n)) :
    ∃ x e' H', r = some (x, e', H') ∧ (x = .exit 0 ∧ Keeps H0 H' ∧ H0.size < H'.size ∧ H'.obj H0.size = .cells ((markT ns n v).map .bool) ∧ ∃ c : Nat, c ≤ n ∧ e' 6 = some (.int .i64 c)) ∧ ∀ t, t ∉ defs Zb8 → e' t = e t := by
  have lim := t.lim
  have lim2 := t.lim2
  refine loop_rule Zb8.eq_1 hL (fun i e1 H1 => ∃ v1 : List Bool, ∃ c : Nat, i < len ∧ i ≤ ns.length ∧ v1.length = len ∧ e1 7 = some (.int .i64 i) ∧ e1 6 = some (.int .i64 c) ∧ c + i ≤ n ∧ Keeps H0 H1 ∧ H0.size < H1.size ∧ H1.obj H0.size = .cells (v1.map .bool) ∧ markT ns i v1 = markT ns n v) _ n ⟨v, 0, hn, hnk, hl, e7, e6, by omega, k0, z, hv, rfl⟩ ?_
  rintro i e1 H1 hf ⟨v1, c, hi, hik, hl1, f7, f6, hci, k1, z1, ho, hmk⟩
  cases i with
  | zero =>
    simp [f7]
    exact ⟨k1, z1, by rw [ho, ← hmk]; rfl, c, by omega, f6⟩
  | succ i =>
    have hik' : i < ns.length := hik
    have hne : ns ≠ [] := by rintro rfl; simp at hik'
    obtain ⟨m, hm⟩ : ∃ m, ns[i]? = some m := ⟨ns[i], List.getElem?_eq_getElem hik'⟩
    have hg : ns.getD i Nd.zero = m := by simp [List.getD_eq_getElem?_getD, hm]
    obtain ⟨⟨a0, a1⟩, ⟨b0, b1⟩, ⟨d0, d1⟩⟩ := kok i m hm
    have hself : ∀ H', Keeps H0 H' → H'.obj g = .cells [.int .i64 most, .row o1 0 11 ns.length false, .map o2, .map o3] := fun H' k => ((k.obj g t.lg).trans t.og).trans (by rw [slv_row hik'])
    have hb1 : ∀ H2, Keeps H0 H2 → H2.obj o1 = .cells (flat ns) := fun H2 k => (k.obj _ (t.l1 hne)).trans (t.b1 hne)
    have hat := flat_at hm
    have hfl := flat_len ns
    have hle2 : i * 11 + 11 ≤ ns.length * 11 := by omega
    have w1 : IntKind.i64.wrap (i : Int) = (i : Int) := i64w (by omega) (by omega)
    have w2 : IntKind.i64.wrap ((c : Int) + 1) = (c : Int) + 1 := i64w (by omega) (by omega)
    have z2 : H0.size ≤ H1.size := Nat.le_of_lt z1
    have c1 : ¬ ((i : Int) + 1 ≤ 0) := by omega
    have c2 : (i : Int) + 1 < len := by omega
    have c3 : (i : Int) < ns.length := by omega
    have t1 : ((i : Int) + 1).toNat = i + 1 := by omega
    have p1 : (0 : Int) < (i : Int) + 1 := by omega
    have mk := marks_at (v := v1) (j := i + 1) (by omega)
    rw [markT] at hmk
    cases hx : v1.getD (i + 1) false with
    | false =>
      rw [hx] at mk
      rw [mark1T, hx] at hmk
      simp (maxDischargeDepth := 20) [hf, f6, f7, e5, w1, z1, k1, c2, t1, p1, ho, mk]
      exact ⟨i, by omega, by omega, by omega, v1, hl1, rfl, c, rfl, by omega, rfl, by simpa using hmk⟩
    | true =>
      rw [hx] at mk
      rw [mark1T, hx, hg] at hmk
      obtain ⟨op, sort, a, b, d, p, q, vw, vl, vh, name⟩ := m
      simp only at a0 a1 b0 b1 d0 d1 hmk
      simp only [Nd.cs] at hat
      obtain ⟨a, rfl⟩ := Int.eq_ofNat_of_zero_le a0
      obtain ⟨b, rfl⟩ := Int.eq_ofNat_of_zero_le b0
      obtain ⟨d, rfl⟩ := Int.eq_ofNat_of_zero_le d0
      have q4 : (a : Int) < (len : Int) := by omega
      have q5 : (b : Int) < (len : Int) := by omega
      have q6 : (d : Int) < (len : Int) := by omega
      have q7 : a < v1.length := by omega
      have q8 : b < v1.length := by omega
      have q9 : d < v1.length := by omega
      have n4 : a < len := by omega
      have n5 : b < len := by omega
      have n6 : d < len := by omega
      simp (maxDischargeDepth := 20) [-List.map_set, hf, f6, f7, e0, e5, hself, hb1, hat, hfl, hle2, w1, w2, z1, z2, k1, c2, c3, t1, p1, ho, mk, q4, q5, q6, n4, n5, n6, marks_set, hl1]
      exact ⟨i, by omega, by omega, by omega, _, by simp [hl1], rfl, c + 1, by omega, by omega, rfl, by simpa using hmk⟩
theorem OutT.push2 {H0 H : AHeap} {v : AV} {l : List Int} (h : OutT H0 H v l) (hob : ∀ p, p ∈ objs v → H0.size < p) (k : Keeps H0 H) (z : H0.size < H.size) {a : Int} (hl : l.length ≤ 1000000) {r : Option (AV × AHeap)}
    (hA : appU (H.new (.cells [.int .i64 a])) v (.row H.size 0 1 1 true) (some (1, 8, [.int .i64 0])) = r) :
    ∃ v' H', r = some (v', H') ∧ OutT H0 H' v' (l ++ [a]) ∧ Keeps H0 H' ∧ (∀ p, p ∈ objs v' → H0.size < p) ∧ H0.size < H'.size ∧ H'.obj H0.size = H.obj H0.size := by
  obtain ⟨H1, rfl, f1, s1, o1, rd⟩ := app_of hA (h.rd.keep (by simp)) h.gr (Reads.row' (all := [.int .i64 a]) (by simp) (by simp) (by simp)) (by omega) rfl (by omega) (by omega) (by omega) (by simp)
  simp only [new_size] at s1
  have := k.size
  refine ⟨_, H1, rfl, ⟨by simpa [RI] using rd, by simp, by simp; omega⟩, f1.keeps (by simp [k]) (fun p hp => h.new p hp), by simp; omega, by omega, ?_⟩
  rw [f1.obj _ (by simp; omega) (fun hh => by have := hob _ hh; omega)]
  simp
  intro e; omega
theorem tcone_loop1 {H0 : AHeap} {len : Nat} {v : List Bool} (hlv : v.length = len) (h1 : 1 ≤ len) (hm : len ≤ 1000000)
    {e : Env} {H : AHeap} {r : Rn} (hL : loopL Tryz.prog KT R Zb9 e H = r) (k0 : Keeps H0 H) (z : H0.size < H.size) (hv : H.obj H0.size = .cells (v.map .bool)) {w0 : AV} (hw0 : OutT H0 H w0 []) (hw1 : ∀ p, p ∈ objs w0 → H0.size < p)
    (e1' : e 1 = some (.int .i64 ((len : Int) - 1))) (e5 : e 5 = some (.row H0.size 0 1 len true)) (e9 : e 9 = some w0) (e10 : e 10 = some (.int .i64 1)) :
    ∃ x e' H', r = some (x, e', H') ∧ (x = .exit 2 ∧ Keeps H0 H' ∧ ∃ w, e' 9 = some w ∧ OutT H0 H' w (outT v len)) ∧ ∀ t, t ∉ defs Zb9 → e' t = e t := by
  refine loop_count Zb9.eq_1 hL len (fun i e1 H1 => ∃ w, e1 9 = some w ∧ e1 10 = some (.int .i64 i) ∧ Keeps H0 H1 ∧ H0.size < H1.size ∧ H1.obj H0.size = .cells (v.map .bool) ∧ (∀ p, p ∈ objs w → H0.size < p) ∧ OutT H0 H1 w (outT v i)) _ 1 h1
    ⟨w0, e9, e10, k0, z, hv, hw1, by rw [outT_one]; exact hw0⟩ ?_ ?_
  · rintro i e1 H1 hf hi1 hi ⟨w, f9, f10, k1, z1, ho, hob, hout⟩
    have w1 : IntKind.i64.wrap ((i : Int) + 1) = (i : Int) + 1 := i64w (by omega) (by omega)
    have c2 : (i : Int) < len := by omega
    have c3 : (i : Int) ≤ (len : Int) - 1 := by omega
    have c4 : ¬ (len : Int) - 1 < (i : Int) := by omega
    have mk := marks_at (v := v) (j := i) (by omega)
    have hlo := outT_len v i
    rw [outT_succ v hi1]
    cases hx : v.getD i false with
    | false =>
      rw [hx] at mk
      simp (maxDischargeDepth := 20) [hf, f9, f10, e1', e5, c2, c3, w1, ho, mk, k1, z1]
      exact ⟨hob, hout⟩
    | true =>
      rw [hx] at mk
      simp (maxDischargeDepth := 20) [hf, f9, f10, e1', e5, c2, c3, ho, mk]
      generalize hA : appU _ _ _ _ = q
      obtain ⟨w', H2, rfl, h2, k2, b2, z2, o2⟩ := hout.push2 hob k1 z1 (by omega) hA
      simp [f10, w1, k2, z2, o2, ho]
      exact ⟨b2, h2⟩
  · rintro e1 H1 hf ⟨w, f9, f10, k1, z1, ho, hob, hout⟩
    have c3 : ¬ (len : Int) ≤ (len : Int) - 1 := by omega
    have c4 : (len : Int) - 1 < (len : Int) := by omega
    simp [hf, e1', f9, f10, c3]
    exact ⟨k1, hout⟩
end Go.Proofs.YtiaoojghohfkjaaGreat
end
section
namespace Go.Proofs.YtiaoojghohfkjaaGreat
set_option maxRecDepth 100000
def kidIn (m : Nd) (i : Nat) : Bool := decide (i = m.a.toNat) || (decide (i = m.b.toNat) || decide (i = m.c.toNat))
def mk1P (ns : List Nd) (n : Nat) (f : Nat → Bool) (i : Nat) : Bool := f i || (f (n + 1) && kidIn (ns.getD n Nd.zero) i)
def mkP (ns : List Nd) : Nat → (Nat → Bool) → Nat → Bool
  | 0, f => f
  | n + 1, f => mkP ns n (mk1P ns n f)
theorem set_getD {v : List Bool} {j i : Nat} (hi : i < v.length) : (v.set j true).getD i false = (v.getD i false || decide (i = j)) := by
  rw [List.getD_eq_getElem?_getD, List.getD_eq_getElem?_getD, List.getElem?_set]
  by_cases h : j = i
  · subst h; simp [hi]
  · have : ¬ i = j := fun e => h e.symm
    simp [h, this]
theorem mark1T_at {ns : List Nd} {n i : Nat} {v : List Bool} (hi : i < v.length) : (mark1T ns n v).getD i false = (v.getD i false || (v.getD (n + 1) false && kidIn (ns.getD n Nd.zero) i)) := by
  unfold mark1T kidIn
  split
  · rename_i h
    rw [set_getD (by simpa using hi), set_getD (by simpa using hi), set_getD hi, h, Bool.true_and, Bool.or_assoc, Bool.or_assoc]
  · rename_i h
    rw [Bool.eq_false_iff.2 h, Bool.false_and, Bool.or_false]
theorem markT_at {ns : List Nd} : ∀ {n : Nat} {v : List Bool} {f : Nat → Bool}, n < v.length → (∀ i, i < v.length → v.getD i false = f i) → ∀ i, i < v.length → (markT ns n v).getD i false = mkP ns n f i
  | 0, v, f, _, h, i, hi => h i hi
  | n + 1, v, f, hn, h, i, hi => by
    rw [markT, mkP]
    refine markT_at (by rw [mark1T_len]; omega) (fun j hj => ?_) i (by rw [mark1T_len]; exact hi)
    rw [mark1T_len] at hj
    rw [mark1T_at hj, mk1P, h j hj, h (n + 1) hn]
theorem mkP_or {ns : List Nd} : ∀ {n : Nat} {f g : Nat → Bool}, mkP ns n (fun i => f i || g i) = fun i => mkP ns n f i || mkP ns n g i
  | 0, _, _ => rfl
  | n + 1, f, g => by
    have : mk1P ns n (fun i => f i || g i) = fun i => mk1P ns n f i || mk1P ns n g i := by
      funext i
      simp only [mk1P]
      cases f i <;> cases g i <;> cases f (n + 1) <;> cases g (n + 1) <;> cases kidIn (ns.getD n Nd.zero) i <;> rfl
    rw [mkP, this, mkP_or]; rfl
theorem mkP_skip {ns : List Nd} {a : Nat} {f : Nat → Bool} : ∀ {n : Nat}, a ≤ n → (∀ j, a < j → j ≤ n → f j = false) → mkP ns n f = mkP ns a f
  | 0, h, _ => by have : a = 0 := by omega
                  rw [this]
  | n + 1, h, hf => by
    by_cases e : a = n + 1
    · rw [e]
    · have : mk1P ns n f = f := by funext i; unfold mk1P; rw [hf (n + 1) (by omega) (Nat.le_refl _)]; simp
      rw [mkP, this]
      exact mkP_skip (by omega) fun j h1 h2 => hf j h1 (by omega)
def cP (ns : List Nd) (n : Nat) : Nat → Bool := mkP ns n fun i => decide (i = n)
theorem cP_zero (ns : List Nd) (i : Nat) : cP ns 0 i = decide (i = 0) := rfl
theorem cP_succ {ns : List Nd} {n : Nat} {m : Nd} (hm : ns[n]? = some m) (ha : m.a.toNat ≤ n) (hb : m.b.toNat ≤ n) (hc : m.c.toNat ≤ n) (i : Nat) : cP ns (n + 1) i = (decide (i = n + 1) || (cP ns m.a.toNat i || (cP ns m.b.toNat i || cP ns m.c.toNat i))) := by
  have hg : ns.getD n Nd.zero = m := by simp [List.getD_eq_getElem?_getD, hm]
  have e1 : mk1P ns n (fun i => decide (i = n + 1)) = fun i => decide (i = n + 1) || (decide (i = m.a.toNat) || (decide (i = m.b.toNat) || decide (i = m.c.toNat))) := by
    funext i
    unfold mk1P kidIn
    rw [hg]; simp
  have e2 : mkP ns n (fun i => decide (i = n + 1)) = fun i => decide (i = n + 1) := mkP_skip (a := 0) (by omega) fun j h1 h2 => by simp; omega
  have K : ∀ k, k ≤ n → mkP ns n (fun i => decide (i = k)) = cP ns k := fun k hk => mkP_skip hk fun j h1 h2 => by simp; omega
  show mkP ns n (mk1P ns n fun i => decide (i = n + 1)) i = _
  rw [e1, mkP_or, mkP_or, mkP_or, e2, K _ ha, K _ hb, K _ hc]
theorem cP_high {ns : List Nd} (kok : Kok ns) : ∀ (n : Nat), n ≤ ns.length → ∀ i, n < i → cP ns n i = false := by
  intro n
  induction n using Nat.strongRecOn with
  | ind n ih =>
    intro hn i hi
    cases n with
    | zero => rw [cP_zero]; simp; omega
    | succ n =>
      obtain ⟨m, hm⟩ : ∃ m, ns[n]? = some m := ⟨ns[n], List.getElem?_eq_getElem hn⟩
      obtain ⟨⟨a0, a1⟩, ⟨b0, b1⟩, ⟨d0, d1⟩⟩ := kok n m hm
      rw [cP_succ hm (by omega) (by omega) (by omega), ih m.a.toNat (by omega) (by omega) i (by omega), ih m.b.toNat (by omega) (by omega) i (by omega), ih m.c.toNat (by omega) (by omega) i (by omega)]
      simp; omega
theorem coneM_at {ns : List Nd} {n i : Nat} (hi : i ≤ n) : (coneM ns n).getD i false = cP ns n i := by
  unfold coneM cP
  refine markT_at (by simp) (fun j hj => ?_) i (by simp; omega)
  rw [set_getD (by simpa using hj)]
  have : (List.replicate (n + 1) false).getD j false = false := by
    rw [List.getD_eq_getElem?_getD]; simp [List.getElem?_replicate]; split <;> rfl
  rw [this]; simp
theorem mem_outT {v : List Bool} {i j : Nat} : (j : Int) ∈ outT v i ↔ 1 ≤ j ∧ j < i ∧ v.getD j false = true := by
  unfold outT
  simp only [List.mem_map, List.mem_filter, List.mem_range, Bool.and_eq_true, decide_eq_true_eq]
  constructor
  · rintro ⟨k, ⟨h1, h2, h3⟩, h4⟩
    have : k = j := by omega
    subst this
    exact ⟨h2, h1, h3⟩
  · rintro ⟨h1, h2, h3⟩
    exact ⟨j, ⟨h2, h1, h3⟩, rfl⟩
theorem mem_cone {ns : List Nd} (kok : Kok ns) {a : Int} (h0 : 0 ≤ a) (h1 : a ≤ ns.length) {j : Nat} (hj : 1 ≤ j) : (j : Int) ∈ coneT ns a ↔ cP ns a.toNat j = true := by
  obtain ⟨n, rfl⟩ := Int.eq_ofNat_of_zero_le h0
  have hn : n ≤ ns.length := by omega
  simp only [Int.toNat_natCast]
  unfold coneT
  by_cases c : n = 0
  · subst c
    rw [if_pos (.inl (by simp)), cP_zero]
    simp; omega
  · rw [if_neg (by omega), Int.toNat_natCast, mem_outT]
    constructor
    · rintro ⟨-, h2, h3⟩
      rwa [coneM_at (by omega)] at h3
    · intro h
      by_cases c2 : j ≤ n
      · exact ⟨hj, by omega, by rw [coneM_at c2]; exact h⟩
      · rw [cP_high kok n hn j (by omega)] at h; cases h
theorem cone_mem {ns : List Nd} {a x : Int} (h : x ∈ coneT ns a) : ∃ j : Nat, x = j ∧ 1 ≤ j ∧ j ≤ ns.length := by
  unfold coneT at h
  split at h
  · cases h
  · rename_i c
    unfold outT at h
    simp only [List.mem_map, List.mem_filter, List.mem_range, Bool.and_eq_true, decide_eq_true_eq] at h
    obtain ⟨k, ⟨h1, h2, -⟩, rfl⟩ := h
    exact ⟨k, rfl, h2, by omega⟩
end Go.Proofs.YtiaoojghohfkjaaGreat
end
section
namespace Go.Proofs.YtiaoojghohfkjaaGreat
set_option maxRecDepth 100000
set_option maxHeartbeats 2000000
structure Gok (ns : List Nd) : Prop where
  kok : Kok ns
  vok : Vok ns
  form : ∀ n, n ∈ ns → formedF ns.length n = true
  srt : ∀ n, n ∈ ns → sortedF ns n = (n, 0)
  uniq : ∀ i n, ns[i]? = some n → n.op = 2 → vidx ns n.name = some i
theorem Gok.nil : Gok [] := ⟨fun i n h => by simp at h, fun n h => by simp at h, fun n h => by simp at h, fun n h => by simp at h, fun i n h => by simp at h⟩
theorem vidx_more' {ns : List Nd} {M : Nd} {i : Nat} {s : ByteArray} (h : vidx ns s = some i) : vidx (ns ++ [M]) s = some i := vidx_more h
theorem sorted_self {ns : List Nd} {n M : Nd} (h : sortedF ns n = (M, 0)) : sortedF ns M = (M, 0) ∧ ∀ N, formedF N M = formedF N n := by
  by_cases c1 : n.op = 1
  · have : (sortedF ns n).1 = n := by unfold sortedF; rw [if_pos c1]
    have e : M = n := by rw [h] at this; exact this
    subst e
    exact ⟨h, fun _ => rfl⟩
  by_cases c2 : n.op = 2
  · have : (sortedF ns n).1 = n := by unfold sortedF; rw [if_neg c1, if_pos c2]
    have e : M = n := by rw [h] at this; exact this
    subst e
    exact ⟨h, fun _ => rfl⟩
  · unfold sortedF at h
    rw [if_neg c1, if_neg c2] at h
    have e := congrArg Prod.fst h
    have e2 := congrArg Prod.snd h
    simp only at e e2
    subst e
    refine ⟨?_, fun _ => rfl⟩
    unfold sortedF
    simp only [c1, c2, if_false]
    rw [e2]
theorem sorted_zero {ns : List Nd} {n : Nd} (h : (sortedF ns n).2 = 0) : sortedF ns n = ((sortedF ns n).1, 0) := by rw [← h]
theorem Gok.make {most : Int} {ns : List Nd} {n : Nd} (g : Gok ns) : Gok (makT most ns n).1 := by
  unfold makT
  split
  · exact g
  rename_i h1
  split
  · exact g
  rename_i h2
  have hf : formedF ns.length n = true := by simpa using h1
  have hs : (sortedF ns n).2 = 0 := by simpa using h2
  split
  · exact g
  rename_i hi
  split
  · exact g
  have hss := sorted_zero hs
  generalize hM : (sortedF ns n).1 = M at *
  obtain ⟨s1, s2⟩ := sorted_self hss
  have fM : formedF ns.length M = true := by rw [s2]; exact hf
  obtain ⟨k1, k2, k3⟩ := formed_kids fM
  obtain ⟨k4, k5, k6⟩ := formed_kids0 fM
  have ho := sorted_op hss
  have hv2 : M.op = 2 → vidx ns M.name = none ∧ M = n ∧ M = ⟨2, M.sort, 0, 0, 0, 0, 0, 0, 0#64, 0#64, M.name⟩ := fun h => by
    have e := ho.2 (ho.1 ▸ h)
    have := var_new g.vok hf (ho.1 ▸ h) hs (by rw [hM]; exact hi)
    rw [← e] at this
    exact ⟨this.1, e, this.2.2⟩
  refine ⟨g.kok.grow ⟨⟨k4, k1⟩, ⟨k5, k2⟩, ⟨k6, k3⟩⟩, ?_, ?_, ?_, ?_⟩
  · intro m hm hm2
    rcases List.mem_append.1 hm with h | h
    · exact g.vok m h hm2
    · simp at h
      subst h
      exact (hv2 hm2).2.2
  · intro m hm
    rcases List.mem_append.1 hm with h | h
    · exact formed_more (by rw [List.length_append]; omega) (g.form m h)
    · simp at h
      subst h
      exact formed_more (by rw [List.length_append]; omega) fM
  · intro m hm
    rcases List.mem_append.1 hm with h | h
    · exact sorted_more (g.form m h) (g.srt m h) fun h2 => vidx_of_mem h h2
    · simp at h
      subst h
      by_cases c2 : m.op = 2
      · obtain ⟨v1, v2, v3⟩ := hv2 c2
        have c1 : ¬ m.op = 1 := by omega
        unfold sortedF at s1 ⊢
        rw [if_neg c1, if_pos c2] at s1 ⊢
        have e2 := congrArg Prod.snd s1
        simp only at e2
        split at e2
        rotate_left
        · cases e2
        rename_i hc
        rw [if_pos hc]
        cases hb : nameBad ns m with
        | true => rw [hb] at e2; cases e2
        | false =>
          unfold nameBad at hb ⊢
          rw [v1] at hb
          rw [vidx_append, v1]
          simp only [Bool.or_eq_false_iff] at hb
          simp [c2, hb.1]
      · exact sorted_more fM s1 fun h2 => absurd h2 c2
  · intro i m hm hm2
    by_cases c : i < ns.length
    · rw [List.getElem?_append_left c] at hm
      exact vidx_more' (g.uniq i m hm hm2)
    · have hl := (List.getElem?_eq_some_iff.1 hm).1
      rw [List.length_append, List.length_singleton] at hl
      have e : i = ns.length := by omega
      subst e
      rw [List.getElem?_append_right (Nat.le_refl _), Nat.sub_self] at hm
      simp at hm
      subst hm
      rw [vidx_append, (hv2 hm2).1]
      simp [hm2]
def Nd.v (n : Nd) : Vl := ⟨n.vw, mkN n.vl n.vh⟩
def pick (acc : List Vl) (k : Int) : Vl := if k ≤ 0 then Vl.zero else acc.getD (k - 1).toNat Vl.zero
def kidsV (acc : List Vl) (n : Nd) : List Vl := [pick acc n.a, pick acc n.b, pick acc n.c].take (arity n.op).toNat
def nodeV (look : ByteArray → Option Vl) (acc : List Vl) (n : Nd) : Vl :=
  if n.op = 1 then n.v else if n.op = 2 then (look n.name).getD Vl.zero else meanV n.op n.p n.q (kidsV acc n)
def valsV (look : ByteArray → Option Vl) (ns : List Nd) : List Vl := ns.foldl (fun acc n => acc ++ [nodeV look acc n]) []
theorem valsV_append (look : ByteArray → Option Vl) (ns : List Nd) (n : Nd) : valsV look (ns ++ [n]) = valsV look ns ++ [nodeV look (valsV look ns) n] := by simp [valsV]
theorem valsV_more (look : ByteArray → Option Vl) (ns : List Nd) : ∀ ks : List Nd, ∃ t, valsV look (ns ++ ks) = valsV look ns ++ t := by
  intro ks
  induction ks generalizing ns with
  | nil => exact ⟨[], by simp⟩
  | cons k ks ih =>
    obtain ⟨t, ht⟩ := ih (ns ++ [k])
    rw [List.append_assoc] at ht
    exact ⟨_, by rw [show ns ++ k :: ks = ns ++ ([k] ++ ks) from rfl, ht, valsV_append, List.append_assoc]⟩
theorem valsV_len (look : ByteArray → Option Vl) : ∀ ns : List Nd, (valsV look ns).length = ns.length := by
  suffices h : ∀ (ns : List Nd) (acc : List Vl), (ns.foldl (fun acc n => acc ++ [nodeV look acc n]) acc).length = acc.length + ns.length from fun ns => by have := h ns []; simpa [valsV] using this
  intro ns
  induction ns with
  | nil => intro acc; rfl
  | cons n ns ih => intro acc; rw [List.foldl_cons, ih]; simp; omega
theorem pick_more {acc t : List Vl} {k : Int} (h : k ≤ acc.length) : pick (acc ++ t) k = pick acc k := by
  unfold pick
  split
  · rfl
  · rename_i c
    rw [List.getD_eq_getElem?_getD, List.getD_eq_getElem?_getD, List.getElem?_append_left (by omega)]
theorem nodeV_more {look : ByteArray → Option Vl} {acc t : List Vl} {n : Nd} (ha : n.a ≤ acc.length) (hb : n.b ≤ acc.length) (hc : n.c ≤ acc.length) : nodeV look (acc ++ t) n = nodeV look acc n ∧ kidsV (acc ++ t) n = kidsV acc n := by
  have : kidsV (acc ++ t) n = kidsV acc n := by unfold kidsV; rw [pick_more ha, pick_more hb, pick_more hc]
  exact ⟨by unfold nodeV; rw [this], this⟩
def V (look : ByteArray → Option Vl) (ns : List Nd) (k : Int) : Vl := pick (valsV look ns) k
theorem V_zero (look : ByteArray → Option Vl) (ns : List Nd) {k : Int} (h : k ≤ 0) : V look ns k = Vl.zero := by unfold V pick; rw [if_pos h]
theorem V_node {look : ByteArray → Option Vl} {ns : List Nd} (kok : Kok ns) {i : Nat} {n : Nd} (hn : ns[i]? = some n) : V look ns ((i : Int) + 1) = nodeV look (valsV look ns) n := by
  have hi := (List.getElem?_eq_some_iff.1 hn).1
  obtain ⟨⟨a0, a1⟩, ⟨b0, b1⟩, ⟨d0, d1⟩⟩ := kok i n hn
  have e : ns = ns.take i ++ ([n] ++ ns.drop (i + 1)) := by
    rw [← List.append_assoc]
    have : ns.take i ++ [n] = ns.take (i + 1) := by rw [List.take_add_one, hn]; rfl
    rw [this, List.take_append_drop]
  have hl : (ns.take i).length = i := by simp; omega
  obtain ⟨t, ht⟩ := valsV_more look (ns.take i) ([n] ++ ns.drop (i + 1))
  have e1 : valsV look ns = valsV look (ns.take i) ++ t := by rw [← ht, ← e]
  have hvl : (valsV look (ns.take i)).length = i := by rw [valsV_len, hl]
  rw [e1, (nodeV_more (by rw [hvl]; exact a1) (by rw [hvl]; exact b1) (by rw [hvl]; exact d1)).1]
  obtain ⟨t2, ht2⟩ := valsV_more look (ns.take i ++ [n]) (ns.drop (i + 1))
  rw [List.append_assoc, ← e, valsV_append] at ht2
  unfold V pick
  rw [if_neg (by omega), ht2, show ((i : Int) + 1 - 1).toNat = i from by omega, List.getD_eq_getElem?_getD, List.getElem?_append_left (by simp; omega), List.getElem?_append_right (by omega), hvl, Nat.sub_self]
  rfl
def varFit (look : ByteArray → Option Vl) (n : Nd) : Bool := match look n.name with
  | some v => v.ok && decide (v.w = n.sort)
  | none => false
def Cl (ns : List Nd) (S : Nat → Prop) : Prop := ∀ i n, S i → ns[i]? = some n → ∀ k, (k = n.a ∨ k = n.b ∨ k = n.c) → 0 < k → S (k - 1).toNat
theorem ksort_pos {ns : List Nd} {k : Int} (h : 0 < k) {m : Nd} (hm : ns[(k - 1).toNat]? = some m) : ksort ns k = [m.sort] := by
  unfold ksort
  rw [if_pos h, List.getD_eq_getElem?_getD, hm]; rfl
theorem ksort_none {ns : List Nd} {k : Int} (h : k = 0) : ksort ns k = [] := by unfold ksort; rw [if_neg (by omega)]
theorem kids_list {ns : List Nd} {n : Nd} (hf : formedF ns.length n = true) (h3 : ¬ n.op = 1) (h2 : ¬ n.op = 2) (acc : List Vl) (hk : ∀ k, (k = n.a ∨ k = n.b ∨ k = n.c) → 0 < k → ∃ m, ns[(k - 1).toNat]? = some m ∧ (pick acc k).ok = true ∧ (pick acc k).w = m.sort) :
    (kidsV acc n).map Vl.w = ksort ns n.a ++ ksort ns n.b ++ ksort ns n.c ∧ ∀ v, v ∈ kidsV acc n → v.ok = true := by
  unfold formedF at hf
  simp only [kidsOK, Bool.and_eq_true, decide_eq_true_eq] at hf
  obtain ⟨⟨f1, f2, f3, -⟩, ⟨f4, -⟩, -⟩ := hf
  have K : ∀ k : Int, (k = n.a ∨ k = n.b ∨ k = n.c) → 1 ≤ k → ksort ns k = [(pick acc k).w] ∧ (pick acc k).ok = true := fun k h1 h2 => by
    obtain ⟨m, m1, m2, m3⟩ := hk k h1 (by omega)
    exact ⟨by rw [ksort_pos (by omega) m1, m3], m2⟩
  have har : arity n.op = 1 ∨ arity n.op = 2 ∨ arity n.op = 3 := by
    have h0 := arity_le n.op
    have : ¬ arity n.op = 0 := by
      unfold arity
      split
      · omega
      · split
        · omega
        · split
          · omega
          · split <;> omega
    omega
  unfold kidOK at f1 f2 f3
  unfold kidsV
  rcases har with h | h | h <;> rw [h] at f1 f2 f3 ⊢ <;> simp at f1 f2 f3
  · obtain ⟨q1, q2⟩ := K n.a (.inl rfl) f1.1
    rw [q1, ksort_none f2, ksort_none f3]
    simp [q2]
  · obtain ⟨q1, q2⟩ := K n.a (.inl rfl) f1.1
    obtain ⟨q3, q4⟩ := K n.b (.inr (.inl rfl)) f2.1
    rw [q1, q3, ksort_none f3]
    simp [q2, q4]
  · obtain ⟨q1, q2⟩ := K n.a (.inl rfl) f1.1
    obtain ⟨q3, q4⟩ := K n.b (.inr (.inl rfl)) f2.1
    obtain ⟨q5, q6⟩ := K n.c (.inr (.inr rfl)) f3.1
    rw [q1, q3, q5]
    simp [q2, q4, q6]
theorem val_good {look : ByteArray → Option Vl} {ns : List Nd} (g : Gok ns) {S : Nat → Prop} (hc : Cl ns S) (hv : ∀ i n, S i → ns[i]? = some n → n.op = 2 → varFit look n = true) : ∀ (i : Nat) (n : Nd), S i → ns[i]? = some n →
    (V look ns ((i : Int) + 1)).ok = true ∧ (V look ns ((i : Int) + 1)).w = n.sort ∧ (¬ n.op = 1 → ¬ n.op = 2 → Fit n.op n.p n.q (kidsV (valsV look ns) n) n.sort ∧ applyS n.op n.p n.q (kidsV (valsV look ns) n) = (V look ns ((i : Int) + 1), 0)) := by
  intro i
  induction i using Nat.strongRecOn with
  | ind i ih =>
    intro n hS hn
    obtain ⟨⟨a0, a1⟩, ⟨b0, b1⟩, ⟨d0, d1⟩⟩ := g.kok i n hn
    have hmem : n ∈ ns := List.mem_of_getElem? hn
    have hi := (List.getElem?_eq_some_iff.1 hn).1
    have hs := g.srt n hmem
    rw [V_node g.kok hn]
    by_cases c1 : n.op = 1
    · have e : nodeV look (valsV look ns) n = n.v := by unfold nodeV; rw [if_pos c1]
      rw [e]
      unfold sortedF at hs
      rw [if_pos c1] at hs
      have h2 := congrArg Prod.snd hs
      simp only at h2
      split at h2
      rotate_left
      · cases h2
      rename_i hc
      refine ⟨?_, hc.2.1, fun h => absurd c1 h⟩
      unfold Vl.ok Nd.v
      simp only
      rw [lo_mk, hi_mk]; exact hc.1
    by_cases c2 : n.op = 2
    · have e : nodeV look (valsV look ns) n = (look n.name).getD Vl.zero := by unfold nodeV; rw [if_neg c1, if_pos c2]
      rw [e]
      have hf := hv i n hS hn c2
      unfold varFit at hf
      split at hf
      · rename_i v hv
        rw [hv]
        simp at hf
        exact ⟨hf.1, hf.2, fun _ h => absurd c2 h⟩
      · cases hf
    · have hk := kids_list (g.form n hmem) c1 c2 (valsV look ns) fun k h1 h2 => by
        have hkl : k ≤ i := by rcases h1 with rfl | rfl | rfl <;> assumption
        have hlt : (k - 1).toNat < ns.length := by omega
        obtain ⟨m, hm⟩ : ∃ m, ns[(k - 1).toNat]? = some m := ⟨ns[(k - 1).toNat], List.getElem?_eq_getElem hlt⟩
        obtain ⟨g1, g2, -⟩ := ih (k - 1).toNat (by omega) m (hc i n hS hn k h1 h2) hm
        have e : (((k - 1).toNat : Int) + 1) = k := by omega
        rw [e] at g1 g2
        exact ⟨m, hm, g1, g2⟩
      have e : nodeV look (valsV look ns) n = meanV n.op n.p n.q (kidsV (valsV look ns) n) := by unfold nodeV; rw [if_neg c1, if_neg c2]
      unfold sortedF at hs
      rw [if_neg c1, if_neg c2, ← hk.1] at hs
      have h1 := congrArg (fun x => x.1.sort) hs
      have h2 := congrArg Prod.snd hs
      simp only at h1 h2
      have hfit : Fit n.op n.p n.q (kidsV (valsV look ns) n) n.sort := fit_of (by rw [← h1, ← h2]) hk.2
      rw [e]
      refine ⟨hfit.good.1, hfit.good.2, fun _ _ => ⟨hfit, ?_⟩⟩
      unfold applyS
      rw [sorts_ok hk.2, h2, if_pos rfl]
theorem cP_self {ns : List Nd} (kok : Kok ns) : ∀ n, n ≤ ns.length → cP ns n n = true := by
  intro n hn
  cases n with
  | zero => rfl
  | succ n =>
    obtain ⟨m, hm⟩ : ∃ m, ns[n]? = some m := ⟨ns[n], List.getElem?_eq_getElem hn⟩
    obtain ⟨⟨a0, a1⟩, ⟨b0, b1⟩, ⟨d0, d1⟩⟩ := kok n m hm
    rw [cP_succ hm (by omega) (by omega) (by omega)]
    simp
theorem cP_kids {ns : List Nd} (kok : Kok ns) : ∀ n, n ≤ ns.length → ∀ j m, cP ns n (j + 1) = true → ns[j]? = some m → ∀ k, (k = m.a.toNat ∨ k = m.b.toNat ∨ k = m.c.toNat) → cP ns n k = true := by
  intro n
  induction n using Nat.strongRecOn with
  | ind n ih =>
    intro hn j m hj hm k hk
    cases n with
    | zero => rw [cP_zero] at hj; simp at hj
    | succ n =>
      obtain ⟨m', hm'⟩ : ∃ m, ns[n]? = some m := ⟨ns[n], List.getElem?_eq_getElem hn⟩
      obtain ⟨⟨a0, a1⟩, ⟨b0, b1⟩, ⟨d0, d1⟩⟩ := kok n m' hm'
      rw [cP_succ hm' (by omega) (by omega) (by omega)] at hj ⊢
      simp only [Bool.or_eq_true, decide_eq_true_eq] at hj ⊢
      rcases hj with h | h | h | h
      · have : j = n := by omega
        subst this
        rw [hm] at hm'
        cases hm'
        rcases hk with rfl | rfl | rfl
        · exact .inr (.inl (cP_self kok _ (by omega)))
        · exact .inr (.inr (.inl (cP_self kok _ (by omega))))
        · exact .inr (.inr (.inr (cP_self kok _ (by omega))))
      · exact .inr (.inl (ih _ (by omega) (by omega) j m h hm k hk))
      · exact .inr (.inr (.inl (ih _ (by omega) (by omega) j m h hm k hk)))
      · exact .inr (.inr (.inr (ih _ (by omega) (by omega) j m h hm k hk)))
theorem cone_rises (ns : List Nd) (a : Int) : (coneT ns a).Pairwise (· < ·) := by
  unfold coneT
  split
  · exact .nil
  · unfold outT
    rw [List.pairwise_map]
    refine List.Pairwise.imp (R := fun (a b : Nat) => a < b) (fun h => by omega) ?_
    exact List.Pairwise.filter _ List.pairwise_lt_range
def unfit (look : ByteArray → Option Vl) (ns : List Nd) (x : Int) : Bool := decide ((ns.getD (x - 1).toNat Nd.zero).op = 2) && !varFit look (ns.getD (x - 1).toNat Nd.zero)
def worthS (look : ByteArray → Option Vl) (ns : List Nd) (id : Int) : Vl × Int :=
  if id < 1 ∨ (ns.length : Int) < id then (Vl.zero, 40) else if (coneT ns id).any (unfit look ns) = true then (Vl.zero, 41) else (V look ns id, 0)
end Go.Proofs.YtiaoojghohfkjaaGreat
end
section
namespace Go.Proofs.YtiaoojghohfkjaaGreat
set_option maxRecDepth 100000
set_option maxHeartbeats 2000000
structure Nm where
  name : ByteArray
  v : Vl
def Nm.cs (n : Nm) : List AV := .str n.name :: n.v.cs
def flatN (l : List Nm) : List AV := l.flatMap Nm.cs
theorem flatN_len (l : List Nm) : (flatN l).length = l.length * 4 := by
  induction l with
  | nil => rfl
  | cons v l ih => simp [flatN, Nm.cs, Vl.cs] at *; omega
theorem flatN_at {l : List Nm} : ∀ {i : Nat} {v : Nm}, l[i]? = some v → ((flatN l).drop (i * 4)).take 4 = v.cs := by
  induction l with
  | nil => intro i v h; simp at h
  | cons x l ih =>
    intro i v h
    cases i with
    | zero => simp at h; subst h; simp [flatN, Nm.cs, Vl.cs]
    | succ i =>
      simp at h
      rw [show (i + 1) * 4 = i * 4 + 4 from by omega]
      simpa [flatN, Nm.cs, Vl.cs] using ih h
def RN (H : AHeap) (v : AV) (l : List Nm) : Prop := Reads H v 4 l.length (flatN l)
theorem RN.len {H : AHeap} {v : AV} {l : List Nm} (h : RN H v l) : sliceLen v = some l.length := Reads.len h
theorem RN.keep {H H' : AHeap} {v : AV} {l : List Nm} (h : RN H v l) (k : Keeps H H') : RN H' v l := Reads.keep h k
theorem RN.at {H : AHeap} {v : AV} {l : List Nm} (h : RN H v l) {i : Nat} {x : Nm} (hx : l[i]? = some x) : aindexAddr Tryz.prog Zj v (i : Int) = some (ixp v 4 i) ∧ ∀ H', Keeps H H' → aload Tryz.prog H' Z3 (ixp v 4 i) = some (.agg [.str x.name, .int .i64 x.v.w, u (lo x.v.n), u (hi x.v.n)]) := by
  have hlt := (List.getElem?_eq_some_iff.1 hx).1
  refine ⟨Reads.addr h (by simp) hlt, fun H' k => ?_⟩
  rw [Reads.atN (Reads.keep h k) (by simp) hlt, flatN_at hx]
  rfl
def lookL (l : List Nm) (s : ByteArray) : Option Vl := (l.find? fun n => decide (n.name = s)).map Nm.v
theorem lookL_snoc (l : List Nm) (n : Nm) (s : ByteArray) : lookL (l ++ [n]) s = (lookL l s).or (if s = n.name then some n.v else none) := by
  unfold lookL
  rw [List.find?_append]
  cases h : l.find? (fun n => decide (n.name = s)) with
  | some x => simp
  | none =>
    by_cases c : n.name = s
    · simp [c]
    · have c' : ¬ s = n.name := fun e => c e.symm
      simp [c, c']
def EnvM (es : List AEnt) (look : ByteArray → Option Vl) : Prop := ∀ s, (findE (.str s) es).map (·.val) = (look s).map Vl.av
theorem EnvM.add {es : List AEnt} {l : List Nm} {n : Nm} {c : Nat} (h : EnvM es (lookL l)) (_hn : lookL l n.name = none) : EnvM (es ++ [⟨.str n.name, n.v.av, c⟩]) (lookL (l ++ [n])) := by
  intro s
  have h1 := h s
  have hk : keyEq (.str s) (.str n.name) = decide (s = n.name) := by simp [keyEq, scEq]
  rw [findE_append, lookL_snoc, hk]
  cases hf : findE (.str s) es <;> cases hl : lookL l s <;> rw [hf, hl] at h1 <;> first | (cases h1; done) | skip
  · by_cases e : s = n.name <;> simp [e]
  · simpa using h1
theorem EnvM.find {es : List AEnt} {look : ByteArray → Option Vl} (h : EnvM es look) {s : ByteArray} : (look s = none ∧ findE (.str s) es = none) ∨ ∃ v x, look s = some v ∧ findE (.str s) es = some x ∧ x.val = v.av := by
  have h1 := h s
  cases hf : findE (.str s) es <;> cases hl : look s <;> rw [hf, hl] at h1 <;> first | (cases h1; done) | skip
  · exact .inl ⟨rfl, rfl⟩
  · exact .inr ⟨_, _, rfl, rfl, by simpa using h1⟩
theorem known_loop {H0 H : AHeap} {s : AV} {l : List Nm} (hs : RN H0 s l) (hm : l.length ≤ 1000000) (k0 : Keeps H0 H) (z : H0.size < H.size) (ob : H.obj H0.size = .map (.one .s) [] 0)
    {e : Env} {r : Rn} (hL : loopL Tryz.prog KT R Zfu e H = r) (e3 : e 3 = some (.map H0.size)) (e9 : e 9 = some s) (e10 : e 10 = some (.int .i64 l.length)) (e11 : e 11 = some (.int .i64 0)) :
    ∃ y e' H', r = some (y, e', H') ∧ (y = .exit 0 ∧ Keeps H0 H' ∧ H0.size < H'.size ∧ ∃ es c, H'.obj H0.size = .map (.one .s) es c ∧ EnvM es (lookL l)) ∧ ∀ t, t ∉ defs Zfu → e' t = e t := by
  refine loop_count Zfu.eq_1 hL l.length (fun i e1 H1 => e1 11 = some (.int .i64 i) ∧ Keeps H0 H1 ∧ H0.size < H1.size ∧ ∃ es c, H1.obj H0.size = .map (.one .s) es c ∧ EnvM es (lookL (l.take i))) _ 0 (by omega) ⟨e11, k0, z, [], 0, ob, fun s => by simp [lookL, findE]⟩ ?_ ?_
  · rintro i f H1 hf - hlt ⟨f11, k, z1, es, c, o1, he⟩
    have w1 := i64w (n := (i : Int) + 1) (by omega) (by omega)
    have c1 : (i : Int) < l.length := by omega
    obtain ⟨v, hv⟩ : ∃ v, l[i]? = some v := ⟨l[i], by simp [hlt]⟩
    have ht : l.take (i + 1) = l.take i ++ [v] := by rw [List.take_add_one, hv]; rfl
    obtain ⟨x0, y0⟩ := hs.at hv
    have y1 := y0 H1 k
    have n1 : ¬ H0.size = H1.size := Nat.ne_of_lt z1
    have n2 : ¬ H1.size = H0.size := by omega
    have n3 : H0.size ≤ H1.size := by omega
    have n4 : ¬ H0.size = H1.size + 1 := by omega
    have n5 : ¬ H1.size + 1 = H0.size := by omega
    rw [ht]
    rcases he.find (s := v.name) with ⟨hl, hfe⟩ | ⟨w, x, hl, hfe, hx⟩
    · have ha := he.add (c := c) hl
      simp (maxDischargeDepth := 20) [hf, e3, e9, e10, f11, c1, x0, y1, o1, w1, n1, n3, n4, k, hfe]
      refine ⟨by omega, ha⟩
    · have ha : EnvM es (lookL (l.take i ++ [v])) := by
        intro s
        rw [lookL_snoc, he s]
        by_cases e : s = v.name
        · subst e; rw [hl]; rfl
        · simp [e]
      simp (maxDischargeDepth := 20) [hf, e3, e9, e10, f11, c1, x0, y1, o1, w1, n1, n3, n4, k, hfe, hx]
      refine ⟨by omega, ha⟩
  · rintro f H1 hf ⟨f11, k, z1, es, c, o1, he⟩
    rw [List.take_of_length_le (Nat.le_refl _)] at he
    simp [hf, e10, f11]
    exact ⟨k, z1, es, ⟨c, o1⟩, he⟩
theorem known_env {H : AHeap} {s : AV} {l : List Nm} (hs : RN H s l) (hm : l.length ≤ 1000000) : ∃ H' es c, R Zf0 [s] H = some (.map H.size, H') ∧ Keeps H H' ∧ H.size < H'.size ∧ H'.obj H.size = .map (.one .s) es c ∧ EnvM es (lookL l) := by
  have hlen := hs.len
  rw [Zlv]
  simp (maxDischargeDepth := 40) [Zj0, hlen]
  generalize hL : loopL _ _ _ _ _ _ = y
  obtain ⟨y, e1, H1, rfl, ⟨rfl, k1, z1, es, c, ob, he⟩, fr⟩ := known_loop hs hm (by simp) (by simp) (by simp) hL (by simp) (by simp) (by simp) (by simp)
  simp [fr]
  refine ⟨H1, back_open ?_, k1, z1, es, ⟨c, ob⟩, he⟩
  simp [closed]
end Go.Proofs.YtiaoojghohfkjaaGreat
end
section
namespace Go.Proofs.YtiaoojghohfkjaaGreat
set_option maxRecDepth 100000
set_option maxHeartbeats 4000000
theorem loadi_of {H : AHeap} {v : AV} {l : List Int} (hv : Reads H v 1 l.length (l.map (.int .i64))) {i : Nat} (hi : i < l.length) : aindexAddr Tryz.prog Zk v (i : Int) = some (ixp v 1 i) ∧ ∀ H', Keeps H H' → aload Tryz.prog H' Zc (ixp v 1 i) = some (.int .i64 (l.getD i 0)) := by
  refine ⟨hv.addr (by simp) hi, fun H' k => ?_⟩
  rw [(hv.keep k).at (by simp) rfl hi]
  simp [List.getD_eq_getElem?_getD, hi]
theorem TG.same {H H' : AHeap} {g : Nat} {most : Int} {ns : List Nd} {o1 o2 o3 : Nat} (h : TG H g most ns o1 o2 o3) (z : H.size ≤ H'.size) (k : ∀ p, p ∈ g :: o2 :: o3 :: objs (slv o1 ns) → H'.obj p = H.obj p) : TG H' g most ns o1 o2 o3 := by
  have k1 : ns ≠ [] → H'.obj o1 = H.obj o1 := fun e => k o1 (by
    unfold slv; rw [if_neg e]; simp)
  exact ⟨Nat.lt_of_lt_of_le h.lg z, fun e => Nat.lt_of_lt_of_le (h.l1 e) z, Nat.lt_of_lt_of_le h.l2 z, Nat.lt_of_lt_of_le h.l3 z, (k _ (by simp)).trans h.og, fun e => (k1 e).trans (h.b1 e), by rw [k o2 (by simp)]; exact h.b2, by rw [k o3 (by simp)]; exact h.b3, h.n1, h.n2, h.n3, h.n12, h.n13, h.n23, h.lim, h.lim2⟩
theorem GT.same {H H' : AHeap} {g : Nat} {most : Int} {ns : List Nd} {F : List Nat} (h : GT H g most ns F) (z : H.size ≤ H'.size) (k : ∀ p, p ∈ F → H'.obj p = H.obj p) : GT H' g most ns F := by
  obtain ⟨o1, o2, o3, t, v, kk, rfl⟩ := h
  exact ⟨o1, o2, o3, t.same z k, v, kk, rfl⟩
theorem GT.lt {H : AHeap} {g : Nat} {most : Int} {ns : List Nd} {F : List Nat} (h : GT H g most ns F) : ∀ p, p ∈ F → p < H.size := by
  obtain ⟨o1, o2, o3, t, v, kk, rfl⟩ := h
  intro p hp
  simp only [List.mem_cons] at hp
  rcases hp with rfl | rfl | rfl | hp
  · exact t.lg
  · exact t.l2
  · exact t.l3
  · unfold slv at hp
    split at hp
    · simp at hp
    · rename_i hne
      simp at hp
      subst hp
      exact t.l1 hne
theorem back_ints2 {H H' : AHeap} {w : AV} {l : List Int} (k : Keeps H H') (h : OutT H H' w l) : ∃ v, back [0] H w H' = (v, H) ∧ ∀ H2, RI H2 v l := by
  obtain ⟨rd, gr, new⟩ := h
  cases w <;> first | (exact gr.elim) | skip
  · have e : l = [] := by
      have := rd.len
      simp [sliceLen] at this
      cases l with
      | nil => rfl
      | cons a l => simp at this
    subst e
    refine ⟨.nils, ?_, fun _ => RI.nils⟩
    rw [back_cons (by simp [frz]) k.shut, cut_keeps k]
    simp [frz]
  · rename_i o off sz m full
    have rd' := rd
    obtain ⟨g1, g2, g3, g4⟩ := rd
    obtain ⟨rfl, g4⟩ := g4
    simp [sliceLen] at g1
    subst g1
    have ho : ¬ o < H.size := by have := new o (by simp); omega
    unfold sliceCells at g2
    simp only at g2
    split at g2 <;> first | (cases g2; done) | skip
    rename_i all hob
    split at g2 <;> first | (cases g2; done) | skip
    rename_i hle
    simp only [Option.some.injEq] at g2
    have hf : frz H' H.size [0] (.row o off 1 l.length full) = IL l := by
      rw [frz_row, if_neg ho, hob, frzO_cells, if_pos hle, g2, frz_nil', List.map_id]; rfl
    refine ⟨IL l, ?_, fun _ => RI.lst⟩
    rw [back_cons (by rw [hf]; unfold IL; simp only [closed]; rw [closedL_all, List.all_map, List.all_eq_true]; intro x _; rfl) k.shut, cut_keeps k, hf]
theorem cone_run2 {H : AHeap} {g : Nat} {most : Int} {ns : List Nd} {F : List Nat} (G : GT H g most ns F) {id : Int} : ∃ v, R Zbo [.ptr g 0, .int .i64 id] H = some (v, H) ∧ ∀ H', RI H' v (coneT ns id) := by
  obtain ⟨o1, o2, o3, t, v, kok, rfl⟩ := G
  rw [Zh2]
  have hlen := slv_len o1 ns
  have lim := t.lim
  have lim2 := t.lim2
  have og := t.og
  unfold coneT
  by_cases c1 : id < 1
  · rw [if_pos (.inl c1)]
    simp (maxDischargeDepth := 40) [Zdh, c1]
    exact fun _ => RI.nils
  by_cases c2 : (ns.length : Int) < id
  · rw [if_pos (.inr c2)]
    simp (maxDischargeDepth := 40) [Zdh, c1, c2, og, hlen]
    exact fun _ => RI.nils
  rw [if_neg (by omega)]
  obtain ⟨n, rfl⟩ : ∃ n : Nat, id = (n : Int) := ⟨id.toNat, by omega⟩
  have hnl : n ≤ ns.length := by omega
  have w1 : IntKind.i64.wrap ((n : Int) + 1) = (n : Int) + 1 := i64w (by omega) (by omega)
  have c3 : (n : Int) + 1 ≤ 140737488355328 := by omega
  have c4 : (n : Int) + 1 ≤ 9223372036854775807 := by omega
  have c5 : n < n + 1 := by omega
  have c6 : (n : Int) < (n : Int) + 1 := by omega
  have c7 : (0 : Int) ≤ (n : Int) + 1 := by omega
  simp (maxDischargeDepth := 40) [Zdh, c1, c2, og, hlen, w1, c3, c4, c5, c6, c7]
  generalize hL : loopL _ _ _ _ _ _ = q
  obtain ⟨x, e1, H1, rfl, ⟨rfl, k1, z1, ob1, c, hc, e6⟩, fr1⟩ := tcone_loop0 t kok hL (by simp) (by simp) (n := n) (v := (List.replicate (n + 1) false).set n true) (len := n + 1) (by simp) (by omega) hnl (by rw [List.map_set]; simp) (by simp) (by simp) (by simp) (by simp)
  have d1 : (c : Int) ≤ 140737488355328 := by omega
  have d2 : (c : Int) ≤ 9223372036854775807 := by omega
  have d3 : (c : Int) * 8 ≤ 140737488355328 := by omega
  simp (maxDischargeDepth := 40) [e6, d2, d3]
  generalize hL2 : loopL _ _ _ _ _ _ = q
  have K1 := k1.new' (.cells (List.replicate c (AV.int .i64 0)))
  obtain ⟨x, e2, H2, rfl, ⟨rfl, k2, w, e9, hout⟩, fr2⟩ := tcone_loop1 (v := markT ns n ((List.replicate (n + 1) false).set n true)) (len := n + 1) (by rw [markT_len]; simp) (by omega) (by omega) hL2 K1 (by simp; omega) (by simp [ob1, z1])
    (w0 := .row H1.size 0 1 0 (decide (0 = (c : Int)))) ⟨⟨rfl, by simp [sliceCells], rfl, ⟨rfl, by simp⟩⟩, by simp, by simp; omega⟩ (by simp; omega) (by simp [fr1]) (by simp [fr1]) (by simp) (by simp)
  simp (maxDischargeDepth := 40) [e9]
  exact back_ints2 k2 hout
end Go.Proofs.YtiaoojghohfkjaaGreat
end
section
namespace Go.Proofs.YtiaoojghohfkjaaGreat
set_option maxRecDepth 100000
set_option maxHeartbeats 2000000
@[simp] theorem plainV_u {x : BitVec 64} : plainV (u x) = true := rfl
theorem aslice_to {P : Program} {H : AHeap} {t : TypeId} {sz o off n : Nat} {full : Bool} (h : eszS P t = some sz) {k : Nat} (hkn : k ≤ n) : aslice P H t (.row o off sz n full) none (some (.int .i64 (k : Int))) none = some (.row o off sz k (full && decide ((k : Int) = n))) := by
  have h3 : (k : Int) ≤ n := by omega
  unfold eszS at h
  unfold aslice
  split at h <;> first | (cases h; done) | skip
  rename_i e hu
  rw [hu]
  simp [h, h3]
theorem flatV_take (l : List Vl) : ∀ k, flatV (l.take k) = (flatV l).take (k * 3) := by
  induction l with
  | nil => intro k; simp [flatV]
  | cons x l ih =>
    intro k
    cases k with
    | zero => simp [flatV]
    | succ k =>
      rw [show (k + 1) * 3 = k * 3 + 3 from by omega]
      simpa [flatV, Vl.cs] using ih k
def ValM (es : List AEnt) (look : ByteArray → Option Vl) (ns : List Nd) (c : List Int) : Prop := ∀ k : Int, (findE (.int .i64 k) es).map (·.val) = if k ∈ c then some (V look ns k).av else none
theorem ValM.add {es : List AEnt} {look : ByteArray → Option Vl} {ns : List Nd} {c : List Int} {k : Int} {b : Nat} (h : ValM es look ns c) (hk : k ∉ c) : findE (.int .i64 k) es = none ∧ ValM (es ++ [⟨.int .i64 k, (V look ns k).av, b⟩]) look ns (c ++ [k]) := by
  have hn : findE (.int .i64 k) es = none := by
    have := h k
    rw [if_neg hk] at this
    cases hf : findE (.int .i64 k) es with
    | none => rfl
    | some x => rw [hf] at this; cases this
  refine ⟨hn, fun j => ?_⟩
  have h1 := h j
  have hkq : keyEq (.int .i64 j) (.int .i64 k) = decide (j = k) := by simp only [keyEq, scEq]; rw [Bool.eq_iff_iff]; simp
  rw [findE_append, hkq]
  by_cases e : j = k
  · subst e; rw [hn]; simp
  · simp only [e, decide_false, Bool.false_eq_true, if_false, Option.or_none, List.mem_append, List.mem_singleton, or_false]
    exact h1
theorem ValM.look {es : List AEnt} {look : ByteArray → Option Vl} {ns : List Nd} {c : List Int} (h : ValM es look ns c) {k : Int} (hk : k ∈ c ∨ k ≤ 0) : lookU false (.agg [.int .i64 0, u 0#64, u 0#64]) (findE (.int .i64 k) es) = (V look ns k).av := by
  have h1 := h k
  by_cases e : k ∈ c
  · rw [if_pos e] at h1
    cases hf : findE (.int .i64 k) es with
    | none => rw [hf] at h1; cases h1
    | some x => rw [hf] at h1; simpa using h1
  · rw [if_neg e] at h1
    have h0 : k ≤ 0 := hk.resolve_left e
    cases hf : findE (.int .i64 k) es with
    | some x => rw [hf] at h1; cases h1
    | none => rw [V_zero _ _ h0]; rfl
theorem take_low {N : List Int} (hp : N.Pairwise (· < ·)) {m : Nat} {y k : Int} (hy : y ∈ N.take m) (hk : k ∈ N) (h : k < y) : k ∈ N.take m := by
  rw [← List.take_append_drop m N, List.pairwise_append] at hp
  rw [← List.take_append_drop m N] at hk
  rcases List.mem_append.1 hk with h1 | h1
  · exact h1
  · have := hp.2.2 y hy k h1
    omega
theorem cone_kid {ns : List Nd} (kok : Kok ns) {id : Int} (h1 : 1 ≤ id) (hid : id ≤ ns.length) {j : Nat} {n : Nd} (hj : (j : Int) + 1 ∈ coneT ns id) (hn : ns[j]? = some n) {k : Int} (hk : k = n.a ∨ k = n.b ∨ k = n.c) (h0 : 0 < k) : k ∈ coneT ns id ∧ k < (j : Int) + 1 := by
  have hj' : ((j + 1 : Nat) : Int) ∈ coneT ns id := by rw [show ((j + 1 : Nat) : Int) = (j : Int) + 1 from by omega]; exact hj
  have hc := (mem_cone kok (by omega) hid (by omega)).1 hj'
  obtain ⟨⟨a0, a1⟩, ⟨b0, b1⟩, ⟨d0, d1⟩⟩ := kok j n hn
  have := cP_kids kok id.toNat (by omega) j n hc hn k.toNat (by rcases hk with rfl | rfl | rfl <;> simp)
  have h2 := (mem_cone kok (by omega) hid (j := k.toNat) (by omega)).2 this
  rw [show ((k.toNat : Nat) : Int) = k from by omega] at h2
  exact ⟨h2, by rcases hk with rfl | rfl | rfl <;> omega⟩
theorem cone_part {ns : List Nd} (kok : Kok ns) {id : Int} (h1 : 1 ≤ id) (hid : id ≤ ns.length) (m : Nat) : Cl ns fun i => ((i : Int) + 1) ∈ (coneT ns id).take m := by
  intro i n hS hn k hk h0
  obtain ⟨h2, h3⟩ := cone_kid kok h1 hid (List.mem_of_mem_take hS) hn hk h0
  rw [show (((k - 1).toNat : Nat) : Int) + 1 = k from by omega]
  exact take_low (cone_rises ns id) hS h2 h3
theorem arity_some {op : Int} (h0 : 0 ≤ arity op) (h1 : ¬ op = 1) (h2 : ¬ op = 2) : 1 ≤ arity op := by
  unfold arity at h0 ⊢
  repeat' split
  all_goals first | omega | (simp_all; done) | skip
theorem worth_loop {H0 H : AHeap} {g em : Nat} {most : Int} {ns : List Nd} {F : List Nat} (G : GT H0 g most ns F) (gok : Gok ns) {look : ByteArray → Option Vl} {es0 : List AEnt} {c0 : Nat} (lem : em < H0.size) (oem : H0.obj em = .map (.one .s) es0 c0) (hem : EnvM es0 look)
    {id : Int} (h1 : 1 ≤ id) (hid : id ≤ ns.length) {s : AV} (k0 : Keeps H0 H) (z : H0.size + 2 < H.size)
    (o6 : H.obj H0.size = .cells [.int .i64 0, u 0#64, u 0#64]) (ob : H.obj (H0.size + 2) = .map (.one (.i .i64)) [] 0)
    {e : Env} {r : Rn} (hL : loopL Tryz.prog KT R Zft e H = r) (e0 : e 0 = some (.ptr g 0)) (e2 : e 2 = some (.map em)) (e6 : e 6 = some (.ptr H0.size 0)) (e10 : e 10 = some (.map (H0.size + 2))) (e32 : e 32 = some s) (e33 : e 33 = some (.int .i64 (coneT ns id).length)) (e34 : e 34 = some (.int .i64 0)) (hs : ∀ H', RI H' s (coneT ns id)) :
    ∃ y e' H', r = some (y, e', H') ∧ (((coneT ns id).any (unfit look ns) = false ∧ y = .exit 0 ∧ Keeps H0 H' ∧ H0.size + 2 < H'.size ∧ H'.obj H0.size = .cells [.int .i64 0, u 0#64, u 0#64] ∧ ∃ es c, H'.obj (H0.size + 2) = .map (.one (.i .i64)) es c ∧ ValM es look ns (coneT ns id)) ∨
      ((coneT ns id).any (unfit look ns) = true ∧ y = .ret ∧ Keeps H0 H' ∧ H0.size + 2 < H'.size ∧ H'.obj H0.size = .cells [.int .i64 0, u 0#64, u 0#64] ∧ e' 7 = some (.int .i64 41))) ∧ ∀ t, t ∉ defs Zft → e' t = e t := by
  obtain ⟨N, hN⟩ : ∃ N, N = coneT ns id := ⟨_, rfl⟩
  have hlen : N.length ≤ 5000 := by
    obtain ⟨p1, p2, p3, tg, -⟩ := G
    have := tg.lim
    have := tg.lim2
    rw [hN]
    unfold coneT
    rw [if_neg (by omega)]
    have := outT_len (coneM ns id.toNat) (id.toNat + 1)
    omega
  rw [← hN] at hs e33 ⊢
  refine loop_count Zft.eq_1 hL N.length (fun i e1 H1 => e1 34 = some (.int .i64 i) ∧ (∀ x, x ∈ N.take i → unfit look ns x = false) ∧ Keeps H0 H1 ∧ H0.size + 2 < H1.size ∧ H1.obj H0.size = .cells [.int .i64 0, u 0#64, u 0#64] ∧ ∃ es c, H1.obj (H0.size + 2) = .map (.one (.i .i64)) es c ∧ ValM es look ns (N.take i)) _ 0 (by omega)
    ⟨e34, by simp, k0, z, o6, [], 0, ob, fun s => by simp [findE]⟩ ?_ ?_
  · rintro i f H1 hf - hlt ⟨f34, hfit, k, z1, o1, es, c, o2, hv⟩
    have w1 := i64w (n := (i : Int) + 1) (by omega) (by omega)
    have c1 : (i : Int) < N.length := by omega
    obtain ⟨x, hx⟩ : ∃ x, N[i]? = some x := ⟨N[i], by simp [hlt]⟩
    have ht : N.take (i + 1) = N.take i ++ [x] := by rw [List.take_add_one, hx]; rfl
    have hxm : x ∈ N := List.mem_of_getElem? hx
    obtain ⟨j, hxj, hj1, hj2⟩ := cone_mem (hN ▸ hxm)
    have hjl : j - 1 < ns.length := by omega
    have hxt : (x - 1).toNat = j - 1 := by omega
    obtain ⟨n, hn⟩ : ∃ n, ns[j - 1]? = some n := ⟨ns[j - 1], List.getElem?_eq_getElem hjl⟩
    obtain ⟨x0, y0⟩ := loadi_of (hs H1) hlt
    replace y0 := y0 H1 (Keeps.refl _)
    have hg : N.getD i 0 = x := by simp [List.getD_eq_getElem?_getD, hx]
    rw [hg] at y0
    have hns : nodeS ns x = some n := by
      unfold nodeS
      rw [if_neg (by omega), hxt, hn]
    have hgd : ns.getD (x - 1).toNat Nd.zero = n := by
      rw [hxt, List.getD_eq_getElem?_getD, hn]; rfl
    have hnode : ∀ H', Keeps H0 H' → R Zba [.ptr g 0, .int .i64 x] H' = some (.tup [.agg n.cs, .bool true], H') := fun H' k' => by
      obtain ⟨p1, p2, p3, tg, -⟩ := G.keeps k'
      have := node_run tg (id := x)
      rw [hns] at this
      exact this
    have hVx : V look ns x = nodeV look (valsV look ns) n := by
      rw [show x = ((j - 1 : Nat) : Int) + 1 from by omega]
      exact V_node gok.kok hn
    have hin : x ∉ N.take i := by
      intro hmem
      have hp : N.Pairwise (· < ·) := hN ▸ cone_rises ns id
      rw [← List.take_append_drop i N, List.pairwise_append] at hp
      have := hp.2.2 x hmem x (by rw [List.drop_eq_getElem_cons hlt]; simp [(List.getElem?_eq_some_iff.1 hx).2])
      omega
    have hun : unfit look ns x = (decide (n.op = 2) && !varFit look n) := by unfold unfit; rw [hgd]
    obtain ⟨hfe, hadd⟩ := hv.add (b := c) hin
    have n1 : ¬ H0.size = H1.size := by omega
    have n2 : ¬ H1.size = H0.size := by omega
    have n3 : H0.size ≤ H1.size := by omega
    have n4 : ¬ H0.size + 2 = H1.size := by omega
    have n5 : ¬ H1.size = H0.size + 2 := by omega
    have n6 : H0.size + 2 < H1.size + 1 := by omega
    rw [ht]
    obtain ⟨⟨a0, a1⟩, ⟨b0, b1⟩, ⟨d0, d1⟩⟩ := gok.kok _ _ hn
    have hfits : unfit look ns x = false → ∀ y, y ∈ N.take i ∨ y = x → unfit look ns y = false := fun h y hy => by
      rcases hy with h1 | h1
      · exact hfit y h1
      · rw [h1]; exact h
    by_cases p1 : n.op = 1
    · have hu : unfit look ns x = false := by rw [hun]; simp [p1]
      have hV : V look ns x = n.v := by rw [hVx]; unfold nodeV; rw [if_pos p1]
      rw [hV] at hadd
      simp only [Nd.v, Vl.av, lo_mk, hi_mk] at hadd
      replace hfits := hfits hu
      obtain ⟨op, sort, a, b, d, p, q, vw, vl, vh, name⟩ := n
      simp only at p1 hadd
      subst p1
      simp only [Nd.cs] at hnode
      simp (maxDischargeDepth := 20) [hf, e0, e10, e32, e33, f34, c1, x0, y0, o1, o2, w1, n1, n3, n4, k, hnode, hfe]
      exact ⟨hfits, by omega, hadd⟩
    by_cases p2 : n.op = 2
    · have hV : V look ns x = (look n.name).getD Vl.zero := by rw [hVx]; unfold nodeV; rw [if_neg p1, if_pos p2]
      rw [hV] at hadd
      have lem1 : em < H1.size := k.lt lem
      have oem1 := (k.obj _ lem).trans oem
      have m1 : ¬ em = H1.size := by omega
      have m2 : ¬ em = H1.size + 1 := by omega
      have q1 : ¬ H0.size = H1.size + 1 := by omega
      have q2 : ¬ H1.size + 1 = H0.size := by omega
      have q3 : ¬ H0.size + 2 = H1.size + 1 := by omega
      have q4 : ¬ H1.size + 1 = H0.size + 2 := by omega
      obtain ⟨op, sort, a, b, d, p, q, vw, vl, vh, name⟩ := n
      simp only at p2 hadd
      subst p2
      simp only [Nd.cs] at hnode
      rcases hem.find (s := name) with ⟨hl, hfe2⟩ | ⟨v, y, hl, hfe2, hy⟩
      · have hany : ∃ y, y ∈ N ∧ unfit look ns y = true := ⟨x, hxm, by rw [hun]; unfold varFit; rw [hl]; rfl⟩
        simp (maxDischargeDepth := 20) [hf, e0, e2, e6, e32, e33, f34, c1, x0, y0, o1, o2, n1, n3, n4, k, hnode, oem1, m1, q1, q3, hfe2]
        exact ⟨hany, by omega⟩
      · have hr := fun H => fits_run (v := v) (s := sort) (H := H)
        by_cases ok : (v.ok && decide (v.w = sort)) = true
        · rw [ok] at hr
          have hu : unfit look ns x = false := by rw [hun]; unfold varFit; rw [hl]; simp only; rw [ok]; rfl
          rw [hl] at hadd
          simp only [Option.getD_some] at hadd
          simp (maxDischargeDepth := 20) [hf, e0, e2, e10, e32, e33, f34, c1, x0, y0, o1, o2, w1, n1, n3, n4, k, hnode, oem1, m1, q1, q3, hfe2, hy, hr, hfe]
          exact ⟨hfits hu, by omega, hadd⟩
        · rw [Bool.not_eq_true] at ok
          rw [ok] at hr
          have hany : ∃ y, y ∈ N ∧ unfit look ns y = true := ⟨x, hxm, by rw [hun]; unfold varFit; rw [hl]; simp only; rw [ok]; rfl⟩
          simp (maxDischargeDepth := 20) [hf, e0, e2, e6, e32, e33, f34, c1, x0, y0, o1, o2, n1, n3, n4, k, hnode, oem1, m1, q1, q3, hfe2, hy, hr]
          exact ⟨hany, by omega⟩
    · have hmem : n ∈ ns := List.mem_of_getElem? hn
      have hkk : ∀ k, (k = n.a ∨ k = n.b ∨ k = n.c) → k ∈ N.take i ∨ k ≤ 0 := fun kk hk => by
        by_cases h0 : 0 < kk
        · obtain ⟨h2, h3⟩ := cone_kid gok.kok h1 hid (j := j - 1) (by rw [show ((j - 1 : Nat) : Int) + 1 = x from by omega]; exact hN ▸ hxm) hn hk h0
          have h4 : kk ∈ N.take (i + 1) := take_low (hN ▸ cone_rises ns id) (y := x) (by rw [ht]; simp) (hN ▸ h2) (by omega)
          rw [ht] at h4
          rcases List.mem_append.1 h4 with h5 | h5
          · exact .inl h5
          · simp at h5; omega
        · exact .inr (by omega)
      have hu : unfit look ns x = false := by rw [hun]; simp [p2]
      replace hfits := hfits hu
      have hgood := val_good gok (cone_part gok.kok h1 hid (i + 1)) (look := look) (fun i' m hS hm hop => by
        rw [← hN, ht] at hS
        have h6 := hfits _ (by simpa using hS)
        have h7 : unfit look ns ((i' : Int) + 1) = (decide (m.op = 2) && !varFit look m) := by
          unfold unfit
          rw [show ((i' : Int) + 1 - 1).toNat = i' from by omega, List.getD_eq_getElem?_getD, hm]; rfl
        rw [h7] at h6
        simpa [hop] using h6) (j - 1) n (by rw [← hN, ht, show ((j - 1 : Nat) : Int) + 1 = x from by omega]; simp) hn
      rw [show ((j - 1 : Nat) : Int) + 1 = x from by omega] at hgood
      have happ := (hgood.2.2 p1 p2).2
      have ha0 : 0 ≤ arity n.op := by
        have := gok.form n hmem
        unfold formedF at this
        simp only [Bool.and_eq_true, decide_eq_true_eq] at this
        exact this.2.1.1
      have ha1 := arity_some ha0 p1 p2
      have ha3 := arity_le n.op
      obtain ⟨K, hK⟩ : ∃ K : Nat, arity n.op = K := ⟨(arity n.op).toNat, by omega⟩
      have hkv : kidsV (valsV look ns) n = [V look ns n.a, V look ns n.b, V look ns n.c].take K := by unfold kidsV; rw [hK]; rfl
      have lkA := hv.look (hkk n.a (.inl rfl))
      have lkB := hv.look (hkk n.b (.inr (.inl rfl)))
      have lkC := hv.look (hkk n.c (.inr (.inr rfl)))
      rw [hkv] at happ
      have har := fun H => arity_run (op := n.op) (H := H)
      rw [hK] at har
      clear hgood hVx hun hgd hns hfit
      generalize V look ns n.a = A at *
      generalize V look ns n.b = B' at *
      generalize V look ns n.c = D at *
      have hap : ∀ (H2 : AHeap) (o : Nat) (full : Bool), o < H2.size → H2.obj o = .cells [.int .i64 A.w, u (lo A.n), u (hi A.n), .int .i64 B'.w, u (lo B'.n), u (hi B'.n), .int .i64 D.w, u (lo D.n), u (hi D.n)] → R Zfe [.int .i64 n.op, .int .i64 n.p, .int .i64 n.q, .row o 0 3 K full] H2 = some (.tup [(V look ns x).av, .int .i64 0], H2) := fun H2 o full lo' ho => by
        have hrv : RV H2 (.row o 0 3 K full) ([A, B', D].take K) := by
          have h8 := Reads.row (full := full) (off := 0) (n := K) (sz := 3) lo' ho (by simp; omega)
          unfold RV
          rw [flatV_take, show ([A, B', D].take K).length = K from by simp; omega]
          exact h8
        have := apply_run (op := n.op) (p := n.p) (q := n.q) hrv (by simp; omega)
        rw [happ] at this
        exact this
      have hsl : ∀ H o, aslice Tryz.prog H Zf (.row o 0 3 3 true) none (some (.int .i64 (K : Int))) none = some (.row o 0 3 K (true && decide ((K : Int) = (3 : Nat)))) := fun H o => aslice_to (by simp) (by omega)
      generalize V look ns x = X at *
      obtain ⟨op, sort, a, b, d, p, q, vw, vl, vh, name⟩ := n
      simp only at p1 p2 hap lkA lkB lkC har
      simp only [Nd.cs] at hnode
      have q1 : ¬ H0.size = H1.size + 1 := by omega
      have q2 : ¬ H1.size + 1 = H0.size := by omega
      have q3 : ¬ H0.size + 2 = H1.size + 1 := by omega
      have q4 : ¬ H1.size + 1 = H0.size + 2 := by omega
      have q5 : ¬ H0.size = H1.size + 1 + 1 := by omega
      have q6 : ¬ H0.size + 2 = H1.size + 1 + 1 := by omega
      have q7 : ¬ H1.size + 1 + 1 = H0.size + 2 := by omega
      simp (maxDischargeDepth := 20) [hf, e0, e10, e32, e33, f34, c1, x0, y0, o1, o2, w1, n1, n3, n4, k, hnode, hfe, p1, p2, lkA, lkB, lkC, har, hsl, hap, q1, q3, q5]
      exact ⟨hfits, by omega, hadd⟩
  · rintro f H1 hf ⟨f34, hfit, k, z1, o1, es, c, o2, hv⟩
    rw [List.take_of_length_le (Nat.le_refl _)] at hfit hv
    have ha : N.any (unfit look ns) = false := by
      rw [List.any_eq_false]
      intro x hx
      rw [hfit x hx]; simp
    simp [hf, e33, f34]
    exact ⟨hfit, k, z1, o1, es, ⟨c, o2⟩, hv⟩
end Go.Proofs.YtiaoojghohfkjaaGreat
end
section
namespace Go.Proofs.YtiaoojghohfkjaaGreat
set_option maxRecDepth 100000
set_option maxHeartbeats 2000000
theorem worth_run {H : AHeap} {g em : Nat} {most : Int} {ns : List Nd} {F : List Nat} (G : GT H g most ns F) (gok : Gok ns) {look : ByteArray → Option Vl} {es0 : List AEnt} {c0 : Nat} (lem : em < H.size) (oem : H.obj em = .map (.one .s) es0 c0) (hem : EnvM es0 look) {id : Int} :
    R Zfz [.ptr g 0, .int .i64 id, .map em] H = some (.tup [(worthS look ns id).1.av, .int .i64 (worthS look ns id).2], H) := by
  have hnode : ∀ H', Keeps H H' → R Zba [.ptr g 0, .int .i64 id] H' = some (.tup [.agg ((nodeS ns id).getD Nd.zero).cs, .bool (nodeS ns id).isSome], H') := fun H' k' => by
    obtain ⟨p1, p2, p3, tg, -⟩ := G.keeps k'
    exact node_run tg (id := id)
  rw [Zlu]
  by_cases c1 : id < 1 ∨ (ns.length : Int) < id
  · have hns : nodeS ns id = none := by unfold nodeS; rw [if_pos c1]
    rw [hns] at hnode
    simp only [Option.getD_none, Nd.zero, Nd.cs, Option.isSome_none] at hnode
    have hw : worthS look ns id = (Vl.zero, 40) := by unfold worthS; rw [if_pos c1]
    rw [hw]
    simp (maxDischargeDepth := 40) [Zij, hnode, Vl.zero]
  obtain ⟨n, hn⟩ : ∃ n, nodeS ns id = some n := by
    unfold nodeS
    rw [if_neg c1]
    exact ⟨ns[(id - 1).toNat]'(by omega), List.getElem?_eq_getElem (by omega)⟩
  rw [hn] at hnode
  obtain ⟨op, sort, a, b, d, p, q, vw, vl, vh, name⟩ := n
  simp only [Option.getD_some, Nd.cs, Option.isSome_some] at hnode
  have hcone : ∃ v : AHeap → AV, (∀ H', Keeps H H' → R Zbo [.ptr g 0, .int .i64 id] H' = some (v H', H')) ∧ ∀ H' H2, Keeps H H' → RI H2 (v H') (coneT ns id) := by
    have : ∀ H', ∃ v, Keeps H H' → (R Zbo [.ptr g 0, .int .i64 id] H' = some (v, H') ∧ ∀ H2, RI H2 v (coneT ns id)) := fun H' => by
      by_cases k : Keeps H H'
      · obtain ⟨v, h1, h2⟩ := cone_run2 (G.keeps k) (id := id)
        exact ⟨v, fun _ => ⟨h1, h2⟩⟩
      · exact ⟨.nils, fun h => absurd h k⟩
    exact ⟨fun H' => (this H').choose, fun H' k => ((this H').choose_spec k).1, fun H' H2 k => ((this H').choose_spec k).2 H2⟩
  obtain ⟨v, hc, hv⟩ := hcone
  have hlen : ∀ H', Keeps H H' → sliceLen (v H') = some (coneT ns id).length := fun H' k => (hv H' H' k).len
  obtain ⟨W, hW⟩ : ∃ W, W = worthS look ns id := ⟨_, rfl⟩
  rw [← hW]
  unfold worthS at hW
  rw [if_neg c1] at hW
  simp (maxDischargeDepth := 40) [Zij, hnode, hc, hlen]
  generalize hL : loopL _ _ _ _ _ _ = y
  obtain ⟨y, e1, H1, rfl, hy, fr⟩ := worth_loop G gok lem oem hem (by omega) (by omega) (by simp (maxDischargeDepth := 40)) (by simp) (by simp) (by simp) hL (by simp) (by simp) (by simp) (by simp) (by simp; rfl) (by simp) (by simp) (fun H' => hv _ H' (by simp (maxDischargeDepth := 40)))
  have hid0 : id ∈ coneT ns id := by
    obtain ⟨i, rfl⟩ := Int.eq_ofNat_of_zero_le (show 0 ≤ id by omega)
    exact (mem_cone gok.kok (by omega) (by omega) (by omega)).2 (by rw [Int.toNat_natCast]; exact cP_self gok.kok i (by omega))
  rcases hy with ⟨hany, rfl, k, z1, o1, es, c, o2, hvm⟩ | ⟨hany, rfl, k, z1, o1, e7⟩
  · have lk := hvm.look (.inl hid0)
    have n1 : H.size ≤ H1.size := by omega
    rw [if_neg (by rw [hany]; simp)] at hW
    rw [hW]
    simp (maxDischargeDepth := 40) [fr, o1, o2, lk, k]
  · rw [if_pos hany] at hW
    rw [hW]
    simp (maxDischargeDepth := 40) [fr, e7, o1, k, Vl.zero]
end Go.Proofs.YtiaoojghohfkjaaGreat
end
section
namespace Go.Proofs.YtiaoojghohfkjaaGreat
set_option maxRecDepth 100000
theorem choose_on {α β : Type} (b : β) {Q : α → Prop} {P : α → β → Prop} (h : ∀ x, Q x → ∃ y, P x y) : ∃ f : α → β, ∀ x, Q x → P x (f x) := by
  have : ∀ x, ∃ y, Q x → P x y := fun x => by
    by_cases q : Q x
    · obtain ⟨y, hy⟩ := h x q
      exact ⟨y, fun _ => hy⟩
    · exact ⟨b, fun h => absurd h q⟩
  exact ⟨fun x => (this x).choose, fun x => (this x).choose_spec⟩
structure OutC (H0 H : AHeap) (v : AV) (sz n : Nat) (cs : List AV) : Prop where
  rd : Reads H v sz n cs
  gr : grows v
  new : ∀ p, p ∈ objs v → H0.size ≤ p
theorem OutC.nils {H0 H : AHeap} {sz : Nat} : OutC H0 H .nils sz 0 [] := ⟨Reads.nils, by simp, by simp⟩
theorem OutC.keep {H0 H H' : AHeap} {v : AV} {sz n : Nat} {cs : List AV} (h : OutC H0 H v sz n cs) (k : Keeps H H') : OutC H0 H' v sz n cs := ⟨h.rd.keep k, h.gr, h.new⟩
theorem OutC.base {H0 H1 H : AHeap} {v : AV} {sz n : Nat} {cs : List AV} (h : OutC H1 H v sz n cs) (k : H0.size ≤ H1.size) : OutC H0 H v sz n cs := ⟨h.rd, h.gr, fun p hp => Nat.le_trans k (h.new p hp)⟩
theorem OutC.push {H0 H : AHeap} {v : AV} {sz n : Nat} {cs c z : List AV} {by_ : Nat} (h : OutC H0 H v sz n cs) (k : Keeps H0 H) {r : Option (AV × AHeap)}
    (hA : appU (H.new (.cells c)) v (.row H.size 0 sz 1 true) (some (sz, by_, z)) = r) (hc : c.length = sz) (hz : z.length = sz) (hs : 0 < sz) (h1 : (n + 1) * by_ ≤ 140737488355328) (h2 : n + 1 ≤ 9223372036854775807) (ho : allOne c = true) :
    ∃ v' H', r = some (v', H') ∧ OutC H0 H' v' sz (n + 1) (cs ++ c) ∧ Keeps H0 H' ∧ H.size < H'.size ∧ (∀ p, p < H.size → p ∉ objs v → H'.obj p = H.obj p) ∧ ∀ p, p ∈ objs v' → H.size ≤ p := by
  obtain ⟨H1, rfl, f1, s1, o1, rd⟩ := app_of hA (h.rd.keep (Keeps.new H _)) h.gr (Reads.row' (all := c) (by simp) (by simp) (by omega)) (by omega) hz hs h1 h2 ho
  simp only [new_size] at s1
  have := k.size
  refine ⟨_, H1, rfl, ⟨rd, by simp, by simp; omega⟩, f1.keeps (k.new' _) (fun p hp => h.new p hp), by omega, fun p hp hn => ?_, by simp⟩
  rw [f1.obj p (by simp; omega) hn, new_old (by omega)]
theorem frz_out {H H' : AHeap} {v : AV} {sz n : Nat} {cs : List AV} (h : OutC H H' v sz n cs) (hcl : closedL H.size cs = true) : ∃ w, frz H' H.size [0] v = w ∧ closed H.size w = true ∧ ∀ H2, Reads H2 w sz n cs := by
  obtain ⟨rd, gr, new⟩ := h
  cases v <;> first | (exact gr.elim) | skip
  · have hn : n = 0 := by
      have := rd.len
      simp [sliceLen] at this
      omega
    subst hn
    have : cs = [] := List.eq_nil_of_length_eq_zero (by simpa using rd.size)
    subst this
    exact ⟨.nils, by simp, by simp, fun _ => Reads.nils⟩
  · rename_i o off s m full
    obtain ⟨g1, g2, g3, g4⟩ := rd
    obtain ⟨rfl, g4⟩ := g4
    simp [sliceLen] at g1
    subst g1
    have ho : ¬ o < H.size := by have := new o (by simp); omega
    unfold sliceCells at g2
    simp only at g2
    split at g2 <;> first | (cases g2; done) | skip
    rename_i all hob
    split at g2 <;> first | (cases g2; done) | skip
    rename_i hle
    simp only [Option.some.injEq] at g2
    refine ⟨.lst s m cs, ?_, by simpa using hcl, fun _ => Reads.lst g3⟩
    rw [frz_row, if_neg ho, hob, frzO_cells, if_pos hle, g2, frz_nil', List.map_id]
theorem back_out {H H' : AHeap} {v : AV} {sz n : Nat} {cs : List AV} (k : Keeps H H') (h : OutC H H' v sz n cs) (hcl : closedL H.size cs = true) : ∃ w, back [0] H v H' = (w, H) ∧ ∀ H2, Reads H2 w sz n cs := by
  obtain ⟨w, h1, h2, h3⟩ := frz_out h hcl
  exact ⟨w, by rw [back_cons (by rw [h1]; exact h2) k.shut, cut_keeps k, h1], h3⟩
theorem back_outI {H H' : AHeap} {v : AV} {sz n : Nat} {cs : List AV} {kk : IntKind} {i : Int} (k : Keeps H H') (h : OutC H H' v sz n cs) (hcl : closedL H.size cs = true) : ∃ w, back [0, 0] H (.tup [v, .int kk i]) H' = (.tup [w, .int kk i], H) ∧ ∀ H2, Reads H2 w sz n cs := by
  obtain ⟨w, h1, h2, h3⟩ := frz_out h hcl
  have he : frz H' H.size [0, 0] (.tup [v, .int kk i]) = .tup [w, .int kk i] := by rw [frz_tup]; simp only [List.map_cons, List.map_nil, h1, frz_int]
  exact ⟨w, by rw [back_cons (by rw [he]; simp [h2]) k.shut, cut_keeps k, he], h3⟩
end Go.Proofs.YtiaoojghohfkjaaGreat
end
section
namespace Go.Proofs.YtiaoojghohfkjaaGreat
set_option maxRecDepth 100000
set_option maxHeartbeats 2000000
theorem eval_run {H : AHeap} {g : Nat} {most : Int} {ns : List Nd} {F : List Nat} (G : GT H g most ns F) (gok : Gok ns) {s : AV} {env : List Nm} (hs : RN H s env) (hm : env.length ≤ 1000000) {id : Int} :
    R Zdt [.ptr g 0, .int .i64 id, s] H = some (.tup [(worthS (lookL env) ns id).1.av, .int .i64 (worthS (lookL env) ns id).2], H) := by
  obtain ⟨H1, es, c, hk, k1, z1, o1, he⟩ := known_env (H := H.new (.cells [.int .i64 0, u 0#64, u 0#64])) (hs.keep (Keeps.new _ _)) hm
  simp only [new_size] at hk z1 o1
  have k2 := (Keeps.new H (.cells [.int .i64 0, u 0#64, u 0#64])).trans k1
  have hw := worth_run (G.keeps k2) gok z1 o1 he (id := id)
  have oz : H1.obj H.size = .cells [.int .i64 0, u 0#64, u 0#64] := (k1.obj _ (by simp)).trans (by simp)
  have n1 : H.size < H1.size := by omega
  rw [Zmh]
  generalize worthS (lookL env) ns id = W at *
  simp (maxDischargeDepth := 40) [Zkk, hk, hw, oz, k2]
theorem vars_run2 {H : AHeap} {g : Nat} {most : Int} {ns : List Nd} {F : List Nat} (G : GT H g most ns F) : ∃ v, R Zch [.ptr g 0] H = some (v, H) ∧ ∀ H', RI H' v (varsT ns ns.length) := by
  obtain ⟨o1, o2, o3, t, v, kok, rfl⟩ := id G
  rw [Zh0]
  have hlen := slv_len o1 ns
  simp (maxDischargeDepth := 40) [Zgb, t.og, hlen]
  generalize hL : loopL _ _ _ _ _ _ = r
  obtain ⟨y, e1, H1, rfl, ⟨rfl, k1, w, e7, hw⟩, fr⟩ := vars_loop t hL (by simp) (by simp) (by simp) (by simp)
  simp (maxDischargeDepth := 40) [e7]
  exact back_ints2 k1 hw
def fullV (look : ByteArray → Option Vl) (n : Nd) : Vl := if (((look n.name).getD Vl.zero).ok && decide (((look n.name).getD Vl.zero).w = n.sort)) = true then (look n.name).getD Vl.zero else ⟨n.sort, 0#128⟩
def fullS (look : ByteArray → Option Vl) (ns : List Nd) (xs : List Int) : List Nm := xs.map fun x => ⟨(ns.getD (x - 1).toNat Nd.zero).name, fullV look (ns.getD (x - 1).toNat Nd.zero)⟩
theorem flatN_append (l m : List Nm) : flatN (l ++ m) = flatN l ++ flatN m := by simp [flatN]
theorem fullS_take {look : ByteArray → Option Vl} {ns : List Nd} {xs : List Int} {i : Nat} {x : Int} (hx : xs[i]? = some x) {n : Nd} (hn : ns.getD (x - 1).toNat Nd.zero = n) : fullS look ns (xs.take (i + 1)) = fullS look ns (xs.take i) ++ [⟨n.name, fullV look n⟩] := by
  unfold fullS
  rw [List.take_add_one, hx, List.map_append]
  simp only [Option.toList_some, List.map_cons, List.map_nil, hn]
theorem EnvM.val {es : List AEnt} {look : ByteArray → Option Vl} (h : EnvM es look) {s : ByteArray} : lookU false (.agg [.int .i64 0, u 0#64, u 0#64]) (findE (.str s) es) = ((look s).getD Vl.zero).av := by
  rcases h.find (s := s) with ⟨h1, h2⟩ | ⟨v, x, h1, h2, h3⟩
  · rw [h1, h2]; rfl
  · rw [h1, h2]; simpa using h3
theorem mem_vars {ns : List Nd} {x : Int} (h : x ∈ varsT ns ns.length) : ∃ j : Nat, x = (j : Int) + 1 ∧ j < ns.length ∧ (ns.getD j Nd.zero).op = 2 := by
  unfold varsT at h
  simp only [List.mem_map, List.mem_filter, List.mem_range, decide_eq_true_eq] at h
  obtain ⟨j, ⟨h1, h2⟩, rfl⟩ := h
  exact ⟨j, rfl, h1, h2⟩
theorem complete_loop {H0 H : AHeap} {g em : Nat} {most : Int} {ns : List Nd} {F : List Nat} (G : GT H0 g most ns F) {look : ByteArray → Option Vl} {es0 : List AEnt} {c0 : Nat} (lem : em < H0.size) (oem : H0.obj em = .map (.one .s) es0 c0) (hem : EnvM es0 look) (k0 : Keeps H0 H)
    {s : AV} {e : Env} {r : Rn} (hL : loopL Tryz.prog KT R Zen e H = r) (e0 : e 0 = some (.ptr g 0)) (e5 : e 5 = some (.map em)) (e6 : e 6 = some .nils) (e15 : e 15 = some s) (e16 : e 16 = some (.int .i64 (varsT ns ns.length).length)) (e17 : e 17 = some (.int .i64 0)) (hs : ∀ H', RI H' s (varsT ns ns.length)) :
    ∃ y e' H', r = some (y, e', H') ∧ (y = .exit 0 ∧ Keeps H0 H' ∧ ∃ w, e' 6 = some w ∧ OutC H0 H' w 4 (varsT ns ns.length).length (flatN (fullS look ns (varsT ns ns.length)))) ∧ ∀ t, t ∉ defs Zen → e' t = e t := by
  have hlim : ns.length ≤ 4096 := by
    obtain ⟨p1, p2, p3, tg, -⟩ := G
    have := tg.lim
    have := tg.lim2
    omega
  have hvl := varsT_len ns ns.length
  have hmem : ∀ x, x ∈ varsT ns ns.length → _ := fun x hx => mem_vars hx
  generalize varsT ns ns.length = N at *
  refine loop_count Zen.eq_1 hL N.length (fun i e1 H1 => e1 17 = some (.int .i64 i) ∧ Keeps H0 H1 ∧ ∃ w, e1 6 = some w ∧ OutC H0 H1 w 4 i (flatN (fullS look ns (N.take i)))) _ 0 (by omega)
    ⟨e17, k0, .nils, e6, OutC.nils⟩ ?_ ?_
  · rintro i f H1 hf - hlt ⟨f17, k, w, f6, hw⟩
    have w1 := i64w (n := (i : Int) + 1) (by omega) (by omega)
    have c1 : (i : Int) < N.length := by omega
    obtain ⟨x, hx⟩ : ∃ x, N[i]? = some x := ⟨N[i], by simp [hlt]⟩
    obtain ⟨j, hxj, hj1, hj2⟩ := hmem x (List.mem_of_getElem? hx)
    obtain ⟨n, hn⟩ : ∃ n, ns[j]? = some n := ⟨ns[j], List.getElem?_eq_getElem hj1⟩
    obtain ⟨x0, y0⟩ := loadi_of (hs H1) hlt
    replace y0 := y0 H1 (Keeps.refl _)
    have hg : N.getD i 0 = x := by simp [List.getD_eq_getElem?_getD, hx]
    rw [hg] at y0
    have hns : nodeS ns x = some n := by
      unfold nodeS
      rw [if_neg (by omega), show (x - 1).toNat = j from by omega, hn]
    have hgd : ns.getD (x - 1).toNat Nd.zero = n := by
      rw [show (x - 1).toNat = j from by omega, List.getD_eq_getElem?_getD, hn]; rfl
    have hnode : ∀ H', Keeps H0 H' → R Zba [.ptr g 0, .int .i64 x] H' = some (.tup [.agg n.cs, .bool true], H') := fun H' k' => by
      obtain ⟨p1, p2, p3, tg, -⟩ := G.keeps k'
      have := node_run tg (id := x)
      rw [hns] at this
      exact this
    have ht := fullS_take (look := look) hx hgd
    have lem1 : em < H1.size := k.lt lem
    have oem1 := (k.obj _ lem).trans oem
    have m1 : ¬ em = H1.size := by omega
    have m2 : ¬ em = H1.size + 1 := by omega
    have hlk := hem.val (s := n.name)
    have hfv : fullV look n = if (((look n.name).getD Vl.zero).ok && decide (((look n.name).getD Vl.zero).w = n.sort)) = true then (look n.name).getD Vl.zero else ⟨n.sort, 0#128⟩ := rfl
    have hr := fun H => fits_run (v := (look n.name).getD Vl.zero) (s := n.sort) (H := H)
    rw [ht]
    generalize fullV look n = X at *
    generalize (look n.name).getD Vl.zero = W at *
    have key : ∀ (H2 : AHeap) (r : Option (AV × AHeap)), Keeps H1 H2 → appU (H2.new (.cells [.str n.name, .int .i64 X.w, u (lo X.n), u (hi X.n)])) w (.row H2.size 0 4 1 true) (some (4, 40, [.str .empty, .int .i64 0, u 0#64, u 0#64])) = r → ∃ v' H', r = some (v', H') ∧ OutC H0 H' v' 4 (i + 1) (flatN (fullS look ns (N.take i) ++ [⟨n.name, X⟩])) ∧ Keeps H0 H' := fun H2 r k2 hA => by
      obtain ⟨v', H', h1, h2, h3, -⟩ := (hw.keep k2).push (k.trans k2) hA rfl rfl (by omega) (by omega) (by omega) rfl
      refine ⟨v', H', h1, ?_, h3⟩
      rw [flatN_append]
      simpa [flatN, Nm.cs, Vl.cs] using h2
    obtain ⟨op, sort, a, b, d, p, q, vw, vl, vh, name⟩ := n
    simp only [Nd.cs] at hnode
    simp only at hlk hfv hr key
    by_cases ok : (W.ok && decide (W.w = sort)) = true
    · rw [ok] at hr
      rw [if_pos ok] at hfv
      subst hfv
      simp (maxDischargeDepth := 20) [hf, e0, e5, e15, e16, f17, f6, c1, x0, y0, k, hnode, oem1, m1, hlk, hr]
      generalize hA : appU _ _ _ _ = q
      obtain ⟨v', H', rfl, h2, h3⟩ := key _ q (by simp (maxDischargeDepth := 20)) hA
      simp [f17, w1, h3]
      exact h2
    · rw [Bool.not_eq_true] at ok
      rw [ok] at hr
      rw [if_neg (by rw [ok]; simp)] at hfv
      subst hfv
      have z0 : lo (0#128) = 0#64 := rfl
      have z1 : hi (0#128) = 0#64 := rfl
      simp only [z0, z1] at key
      simp (maxDischargeDepth := 20) [hf, e0, e5, e15, e16, f17, f6, c1, x0, y0, k, hnode, oem1, m1, hlk, hr]
      generalize hA : appU _ _ _ _ = q
      obtain ⟨v', H', rfl, h2, h3⟩ := key _ q (by simp (maxDischargeDepth := 20)) hA
      simp [f17, w1, h3]
      exact h2
  · rintro f H1 hf ⟨f17, k, w, f6, hw⟩
    rw [List.take_of_length_le (Nat.le_refl _)] at hw
    simp [hf, e16, f17]
    exact ⟨k, w, f6, hw⟩
theorem closed_flatN {n : Nat} : ∀ l : List Nm, closedL n (flatN l) = true
  | [] => rfl
  | x :: l => by
    rw [show flatN (x :: l) = x.cs ++ flatN l from rfl, closedL_append, closed_flatN l]
    simp [Nm.cs, Vl.cs]
theorem complete_run {H : AHeap} {g : Nat} {most : Int} {ns : List Nd} {F : List Nat} (G : GT H g most ns F) {s : AV} {env : List Nm} (hs : RN H s env) (hm : env.length ≤ 1000000) :
    ∃ v, R Zc0 [.ptr g 0, s] H = some (v, H) ∧ ∀ H', RN H' v (fullS (lookL env) ns (varsT ns ns.length)) := by
  obtain ⟨H1, es, c, hk, k1, z1, o1, he⟩ := known_env hs hm
  obtain ⟨v, hv, hvr⟩ := vars_run2 (G.keeps k1)
  have hlen := (hvr H1).len
  rw [Zkl]
  simp (maxDischargeDepth := 40) [Zii, hk, hv, hlen]
  generalize hL : loopL _ _ _ _ _ _ = r
  obtain ⟨y, e1, H2, rfl, ⟨rfl, k2, w, e6, hw⟩, fr⟩ := complete_loop (G.keeps k1) z1 o1 he (Keeps.refl _) hL (by simp) (by simp) (by simp) (by simp) (by simp) (by simp) hvr
  simp (maxDischargeDepth := 40) [e6]
  obtain ⟨v', b1, b2⟩ := back_out (k1.trans k2) (hw.base k1.size) (closed_flatN _)
  refine ⟨v', b1, fun H' => ?_⟩
  have := b2 H'
  unfold RN
  rw [show (fullS (lookL env) ns (varsT ns ns.length)).length = (varsT ns ns.length).length from by simp [fullS]]
  exact this
end Go.Proofs.YtiaoojghohfkjaaGreat
end
section
namespace Go.Proofs.YtiaoojghohfkjaaGreat
set_option maxRecDepth 100000
set_option maxHeartbeats 4000000
structure RG (H : AHeap) (g : Nat) (most : Int) (ns : List Nd) (o : Nat) : Prop where
  lg : g < H.size
  l1 : ns ≠ [] → o < H.size
  og : H.obj g = .cells [slv o ns, .int .i64 most]
  b1 : ns ≠ [] → H.obj o = .cells (flat ns)
  n1 : ns ≠ [] → g ≠ o
  lim : (ns.length : Int) ≤ most
  lim2 : most ≤ 4096
theorem RG.same {H H' : AHeap} {g : Nat} {most : Int} {ns : List Nd} {o : Nat} (h : RG H g most ns o) (z : H.size ≤ H'.size) (k : ∀ p, p ∈ g :: objs (slv o ns) → H'.obj p = H.obj p) : RG H' g most ns o := by
  have k1 : ns ≠ [] → H'.obj o = H.obj o := fun e => k o (by
    unfold slv; rw [if_neg e]; simp)
  exact ⟨Nat.lt_of_lt_of_le h.lg z, fun e => Nat.lt_of_lt_of_le (h.l1 e) z, (k _ (by simp)).trans h.og, fun e => (k1 e).trans (h.b1 e), h.n1, h.lim, h.lim2⟩
theorem RG.keep {H H' : AHeap} {g : Nat} {most : Int} {ns : List Nd} {o : Nat} (h : RG H g most ns o) (k : Keeps H H') : RG H' g most ns o :=
  ⟨k.lt h.lg, fun e => k.lt (h.l1 e), (k.obj _ h.lg).trans h.og, fun e => (k.obj _ (h.l1 e)).trans (h.b1 e), h.n1, h.lim, h.lim2⟩
def GR (H : AHeap) (g : Nat) (most : Int) (ns : List Nd) (F : List Nat) : Prop := ∃ o, RG H g most ns o ∧ Vok ns ∧ Kok ns ∧ F = g :: objs (slv o ns)
theorem GR.keeps {H H' : AHeap} {g : Nat} {most : Int} {ns : List Nd} {F : List Nat} (h : GR H g most ns F) (k : Keeps H H') : GR H' g most ns F := by
  obtain ⟨o, t, v, kk, rfl⟩ := h
  exact ⟨o, t.keep k, v, kk, rfl⟩
theorem GR.same {H H' : AHeap} {g : Nat} {most : Int} {ns : List Nd} {F : List Nat} (h : GR H g most ns F) (z : H.size ≤ H'.size) (k : ∀ p, p ∈ F → H'.obj p = H.obj p) : GR H' g most ns F := by
  obtain ⟨o, t, v, kk, rfl⟩ := h
  exact ⟨o, t.same z k, v, kk, rfl⟩
theorem GR.lt {H : AHeap} {g : Nat} {most : Int} {ns : List Nd} {F : List Nat} (h : GR H g most ns F) : ∀ p, p ∈ F → p < H.size := by
  obtain ⟨o, t, v, kk, rfl⟩ := h
  intro p hp
  simp only [List.mem_cons] at hp
  rcases hp with rfl | hp
  · exact t.lg
  · unfold slv at hp
    split at hp
    · simp at hp
    · rename_i hne
      simp at hp
      subst hp
      exact t.l1 hne
theorem rnew_run {n : Int} {H : AHeap} {r : Option (AV × AHeap)} (h : R Zff [.int .i64 n] H = r) : ∃ H' g F, r = some (.ptr g 0, H') ∧ GR H' g (min (max n 1) 4096) [] F ∧ Keeps H H' ∧ ∀ p, p ∈ F → H.size ≤ p := by
  rw [Zkm] at h
  by_cases c : n < 1
  · simp [Zhb, c] at h
    rw [back_open (by simp [closed])] at h
    subst h
    refine ⟨_, H.size, [H.size], rfl, ⟨0, ⟨by simp, by simp, by simp [slv]; omega, by simp, by simp, by show (0 : Int) ≤ _; omega, by omega⟩, (fun n hn => by cases hn), (fun i n hn => by rw [List.getElem?_nil] at hn; cases hn), by simp [slv]⟩, by simp (maxDischargeDepth := 40), fun p hp => by simp at hp; omega⟩
  · simp [Zhb, c] at h
    rw [back_open (by simp [closed])] at h
    subst h
    refine ⟨_, H.size, [H.size], rfl, ⟨0, ⟨by simp, by simp, by simp [slv]; omega, by simp, by simp, by show (0 : Int) ≤ _; omega, by omega⟩, (fun n hn => by cases hn), (fun i n hn => by rw [List.getElem?_nil] at hn; cases hn), by simp [slv]⟩, by simp (maxDischargeDepth := 40), fun p hp => by simp at hp; omega⟩
theorem at_run {H : AHeap} {g : Nat} {most : Int} {ns : List Nd} {o : Nat} (h : RG H g most ns o) {id : Int} : R Zcr [.ptr g 0, .int .i64 id] H = some (.tup [.agg ((nodeS ns id).getD Nd.zero).cs, .bool (nodeS ns id).isSome], H) := by
  have hl := h.lim
  have hl2 := h.lim2
  unfold nodeS
  rw [Zhi]
  have ng : ¬ g = H.size := Nat.ne_of_lt h.lg
  by_cases c1 : id < 1
  · simp (maxDischargeDepth := 40) [Zct, c1, Nd.cs, Nd.zero]
  by_cases c2 : (ns.length : Int) < id
  · simp (maxDischargeDepth := 40) [Zct, c1, c2, h.og, ng, slv_len, Nd.cs, Nd.zero]
  obtain ⟨i, rfl⟩ : ∃ i : Nat, id = (i : Int) + 1 := ⟨(id - 1).toNat, by omega⟩
  have hi : i < ns.length := by omega
  have hne : ns ≠ [] := by rintro rfl; simp at hi
  obtain ⟨n, hn⟩ : ∃ n, ns[i]? = some n := ⟨ns[i], by simp [hi]⟩
  have w1 : IntKind.i64.wrap (i : Int) = (i : Int) := i64w (by omega) (by omega)
  have hx : ns[i] = n := (List.getElem?_eq_some_iff.1 hn).2
  have hs := slv_row (o := o) hi
  have hsl := slv_len o ns
  have ho := h.b1 hne
  have hlt := h.l1 hne
  have n1 : ¬ o = H.size := Nat.ne_of_lt hlt
  have hfl := flat_len ns
  have hat := flat_at hn
  have hle : i * 11 + 11 ≤ ns.length * 11 := by omega
  have e1 : ((i : Int) + 1 - 1).toNat = i := by omega
  have c3 : (i : Int) < ns.length := by omega
  have hg := h.og
  rw [hs] at hg hsl
  simp (maxDischargeDepth := 40) [Zct, c1, c2, hg, hx, w1, c3, hi, ho, n1, ng, hfl, hat, hle]
  simp (maxDischargeDepth := 40) [Nd.cs]
theorem vidx_take {ns : List Nd} {s : ByteArray} {i : Nat} {n : Nd} (hn : ns[i]? = some n) : vidx (ns.take (i + 1)) s = (vidx (ns.take i) s).or (if n.op = 2 ∧ s = n.name then some i else none) := by
  have hi := (List.getElem?_eq_some_iff.1 hn).1
  rw [List.take_add_one, hn, Option.toList_some, vidx_append, List.length_take, Nat.min_eq_left (by omega)]
theorem rvar_loop {H : AHeap} {g : Nat} {most : Int} {ns : List Nd} {o : Nat} (h : RG H g most ns o) {s : ByteArray} {e : Env} {r : Rn} (hL : loopL Tryz.prog KT R Zbp e H = r)
    (e0 : e 0 = some (.ptr g 0)) (e1' : e 1 = some (.str s)) (e6 : e 6 = some (.int .i64 0)) :
    ∃ y e' H', r = some (y, e', H') ∧ (H' = H ∧ ((y = .exit 0 ∧ vidx ns s = none) ∨ (y = .ret ∧ ∃ i, vidx ns s = some i ∧ e' 4 = some (num i) ∧ e' 5 = some (.bool true)))) ∧ ∀ t, t ∉ defs Zbp → e' t = e t := by
  have hl := h.lim
  have hl2 := h.lim2
  refine loop_count Zbp.eq_1 hL ns.length (fun i e1 H1 => e1 6 = some (.int .i64 i) ∧ H1 = H ∧ vidx (ns.take i) s = none) _ 0 (by omega) ⟨e6, rfl, rfl⟩ ?_ ?_
  · rintro i f H1 hf - hi ⟨f6, rfl, hv⟩
    have w1 : IntKind.i64.wrap ((i : Int) + 1) = (i : Int) + 1 := i64w (by omega) (by omega)
    have c1 : (i : Int) < ns.length := by omega
    have hne : ns ≠ [] := by rintro rfl; simp at hi
    obtain ⟨n, hn⟩ : ∃ n, ns[i]? = some n := ⟨ns[i], by simp [hi]⟩
    have hs := slv_row (o := o) hi
    have ho := h.b1 hne
    have hfl := flat_len ns
    have hb0 : i * 11 < (flat ns).length := by omega
    have hb10 : i * 11 + 10 < (flat ns).length := by omega
    have hat0 : (flat ns)[i * 11]? = some (.int .i64 n.op) := flat_get hn (j := 0) (by omega)
    have hat10 : (flat ns)[i * 11 + 8 + 2]? = some (.str n.name) := by
      rw [show i * 11 + 8 + 2 = i * 11 + 10 from by omega, flat_get hn (by omega)]; rfl
    have hg := h.og
    rw [hs] at hg
    have ht := vidx_take (s := s) hn
    rw [hv, Option.none_or] at ht
    have hm : ∀ j, vidx (ns.take (i + 1)) s = some j → vidx ns s = some j := fun j h => by
      have := vidx_more (ks := ns.drop (i + 1)) h
      rwa [List.take_append_drop] at this
    rw [ht] at hm ⊢
    by_cases d1 : n.op = 2
    · rw [d1] at hat0
      by_cases d2 : n.name = s
      · rw [if_pos ⟨d1, d2.symm⟩] at hm
        simp (maxDischargeDepth := 40) [hf, e0, e1', f6, c1, hg, ho, hat0, hat10, d2, w1]
        exact ⟨i, hm i rfl, rfl⟩
      · have d2' : ¬ s = n.name := fun e => d2 e.symm
        simp (maxDischargeDepth := 40) [hf, e0, e1', f6, c1, hg, ho, hat0, hat10, d1, d2, d2', w1]
    · simp (maxDischargeDepth := 40) [hf, e0, f6, c1, hg, ho, hat0, d1, w1]
  · rintro f H1 hf ⟨f6, rfl, hv⟩
    have hg := h.og
    have hsl := slv_len o ns
    simp (maxDischargeDepth := 40) [hf, e0, f6, hg, hsl]
    rw [List.take_of_length_le (Nat.le_refl _)] at hv
    exact hv
theorem rvar_run {H : AHeap} {g : Nat} {most : Int} {ns : List Nd} {o : Nat} (h : RG H g most ns o) {s : ByteArray} : R Zbv [.ptr g 0, .str s] H = some (.tup [((vidx ns s).map num).getD (.int .i64 0), .bool (vidx ns s).isSome], H) := by
  generalize hr : R Zbv _ _ = r
  rw [Zhc] at hr
  simp [Zfh] at hr
  generalize hL : loopL _ _ _ _ _ _ = q at hr
  obtain ⟨y, e1, H1, rfl, ⟨rfl, hy⟩, fr⟩ := rvar_loop (s := s) h hL (by simp) (by simp) (by simp)
  rcases hy with ⟨rfl, hv⟩ | ⟨rfl, i, hv, e4, e5⟩
  · rw [hv]
    simp at hr
    rw [← hr]; rfl
  · rw [hv]
    simp [e4, e5, num] at hr
    rw [← hr]; rfl
end Go.Proofs.YtiaoojghohfkjaaGreat
end
section
namespace Go.Proofs.YtiaoojghohfkjaaGreat
set_option maxRecDepth 100000
set_option maxHeartbeats 4000000
theorem rvars_loop {H : AHeap} {g : Nat} {most : Int} {ns : List Nd} {o : Nat} (h : RG H g most ns o) {e : Env} {r : Rn} (hL : loopL Tryz.prog KT R Zbm e H = r)
    (e0 : e 0 = some (.ptr g 0)) (e3 : e 3 = some .nils) (e4 : e 4 = some (.int .i64 0)) :
    ∃ y' e' H', r = some (y', e', H') ∧ (y' = .exit 0 ∧ Keeps H H' ∧ ∃ w, e' 3 = some w ∧ OutT H H' w (varsT ns ns.length)) ∧ ∀ t, t ∉ defs Zbm → e' t = e t := by
  have hl := h.lim
  have hl2 := h.lim2
  refine loop_count Zbm.eq_1 hL ns.length (fun i e1 H1 => ∃ w, e1 3 = some w ∧ e1 4 = some (.int .i64 i) ∧ Keeps H H1 ∧ OutT H H1 w (varsT ns i)) _ 0 (by omega) ⟨.nils, e3, e4, Keeps.refl _, ⟨by simpa [varsT] using RI.nils, by simp, by simp⟩⟩ ?_ ?_
  · rintro i f H1 hf - hi ⟨w, f3, f4, k1, hout⟩
    have hw1 := i64w (n := (i : Int) + 1) (by omega) (by omega)
    have hc : (i : Int) < ns.length := by omega
    have hne : ns ≠ [] := by rintro rfl; simp at hi
    have hle := varsT_len ns i
    have hs := slv_row (o := o) hi
    have h1 := h.keep k1
    have hb := h1.b1 hne
    have hg1 := h1.og
    rw [hs] at hg1
    obtain ⟨n, hn⟩ : ∃ n, ns[i]? = some n := ⟨ns[i], by simp [hi]⟩
    have hat0 : (flat ns)[i * 11]? = some (.int .i64 n.op) := flat_get hn (j := 0) (by omega)
    have hg : ns.getD i Nd.zero = n := by simp [List.getD_eq_getElem?_getD, hn]
    rw [varsT_succ, hg]
    by_cases c2 : n.op = 2
    · rw [c2] at hat0
      simp (maxDischargeDepth := 40) [hf, e0, f3, f4, hc, hg1, hb, hat0, c2, hw1]
      generalize hA : appU _ _ _ _ = q1
      obtain ⟨w', H3, rfl, h3, k3⟩ := hout.push k1 (by omega) hA
      simp [f4, hw1, k3]
      exact h3
    · simp (maxDischargeDepth := 40) [hf, e0, f3, f4, hc, hg1, hb, hat0, c2, hw1]
      exact ⟨k1, hout⟩
  · rintro f H1 hf ⟨w, f3, f4, k1, hout⟩
    have hg1 := (h.keep k1).og
    have hsl := slv_len o ns
    simp [hf, e0, f3, f4, hg1, hsl, k1]
    exact hout
theorem rvars_run {H : AHeap} {g : Nat} {most : Int} {ns : List Nd} {F : List Nat} (G : GR H g most ns F) : ∃ v, R Zbs [.ptr g 0] H = some (v, H) ∧ ∀ H2, RI H2 v (varsT ns ns.length) := by
  obtain ⟨o, t, v, kok, rfl⟩ := id G
  rw [Zg7]
  simp (maxDischargeDepth := 40) [Ze9]
  generalize hL : loopL _ _ _ _ _ _ = r
  obtain ⟨y, e1, H1, rfl, ⟨rfl, k1, w, e7, hw⟩, fr⟩ := rvars_loop t hL (by simp) (by simp) (by simp)
  simp (maxDischargeDepth := 40) [e7]
  exact back_ints2 k1 hw
end Go.Proofs.YtiaoojghohfkjaaGreat
end

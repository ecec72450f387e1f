/- The document's functions on bits: smod, each, words. -/
import Derived.Test.YtcnhpkongbdihaaBR5
namespace Go.Proofs.Ytcnhpkongbdihaa
set_option maxRecDepth 100000
set_option maxHeartbeats 4000000

theorem abs_zero_iff {w : Nat} (x : BitVec w) : x.abs = 0#w ↔ x = 0#w := by
  unfold BitVec.abs
  split
  · exact BitVec.neg_eq_zero_iff
  · exact Iff.rfl
theorem rsmod_run {w : Nat} (h1 : 1 ≤ w) (hw : w ≤ 128) {x y : BitVec w} {v v' : AV} {H : AHeap} (hv : RB H v (bl x)) (hv' : RB H v' (bl y)) : R f_plaitref1_smod [v, v'] H = some (BL (bl (smodB x y)), H) := by
  rw [e_plaitref1_smod]
  obtain ⟨a, ha, ha2⟩ := rsize_run h1 hw hv
  obtain ⟨b, hb, hb2⟩ := rsize_run h1 hw hv'
  have hd := rdiv_run h1 hw ha2 hb2
  have hu : RB H (BL (bl (x.abs % y.abs))) (bl (x.abs % y.abs)) := RB.lst
  have hz := rzero_run hw hu
  have m1 := rminus_run h1 hw hv
  have m2 := rminus_run h1 hw hv'
  have s1 := rsub_run hw hv' hu
  have s2 := radd_run hw (c := false) hu hv'
  have s3 := rneg_run hw hu
  rw [add_cw] at s2
  unfold smodB
  by_cases c : x.abs % y.abs = 0#w
  · rw [decide_eq_true c] at hz
    simp (maxDischargeDepth := 40) [c_plaitref1_smod, ha, hb, hd, hz]
    simp [c]
  · rw [decide_eq_false c] at hz
    cases hm1 : x.msb <;> cases hm2 : y.msb <;> rw [hm1] at m1 <;> rw [hm2] at m2 <;> simp (maxDischargeDepth := 40) [c_plaitref1_smod, ha, hb, hd, hz, m1, m2, s1, s2, s3] <;> simp [c]

def eb (n : Int) (p q : Bool) : Bool := if n = 12 then p && q else if n = 13 then p || q else if n = 14 then p != q else if n = 15 then !(p && q) else if n = 16 then !(p || q) else p == q
theorem each_run {n : Int} {p q : Bool} {H : AHeap} : R f_plaitref1_each [.int .i64 n, .bool p, .bool q] H = some (.bool (eb n p q), H) := by
  rw [e_plaitref1_each]
  unfold eb
  by_cases c1 : n = 12
  · subst c1; cases p <;> cases q <;> simp (maxDischargeDepth := 40) [c_plaitref1_each]
  by_cases c2 : n = 13
  · subst c2; cases p <;> cases q <;> simp (maxDischargeDepth := 40) [c_plaitref1_each]
  by_cases c3 : n = 14
  · subst c3; cases p <;> cases q <;> simp (maxDischargeDepth := 40) [c_plaitref1_each]
  by_cases c4 : n = 15
  · subst c4; cases p <;> cases q <;> simp (maxDischargeDepth := 40) [c_plaitref1_each]
  by_cases c5 : n = 16
  · subst c5; cases p <;> cases q <;> simp (maxDischargeDepth := 40) [c_plaitref1_each]
  cases p <;> cases q <;> simp (maxDischargeDepth := 40) [c_plaitref1_each, c1, c2, c3, c4, c5]

theorem rwords_loop {w : Nat} (hw : w ≤ 128) {x y z : BitVec w} {n : Int} (hz : ∀ i, i < w → z.getLsbD i = eb n (x.getLsbD i) (y.getLsbD i)) {v v' : AV} {H0 : AHeap} (hv : RB H0 v (bl x)) (hv' : RB H0 v' (bl y)) {e : Env} {r : Rn} (hL : loopL Go.Proofs.Try.prog KT R l_plaitref1_words_0 e (H0.new (.cells (List.replicate w (.bool false)))) = r)
    (e0 : e 0 = some (.int .i64 n)) (e1' : e 1 = some v) (e2' : e 2 = some v') (e8 : e 8 = some (.row H0.size 0 1 w true)) (e9 : e 9 = some (.int .i64 0)) :
    ∃ y e' H', r = some (y, e', H') ∧ (y = .exit 1 ∧ Keeps H0 H' ∧ H0.size < H'.size ∧ H'.obj H0.size = .cells ((bl z).map .bool)) ∧ ∀ t, t ∉ defs l_plaitref1_words_0 → e' t = e t := by
  have hl := hv.len
  rw [bl_length] at hl
  have k0 : Keeps H0 (H0.new (.cells (List.replicate w (.bool false)))) := Keeps.new _ _
  obtain ⟨F, F0, Fs, Fl, Fw⟩ := fillsB z
  rw [← Fw]
  refine loop_count l_plaitref1_words_0.eq_1 hL w (fun i e1 H1 => e1 9 = some (.int .i64 i) ∧ Upd H0.size (H0.new (.cells (List.replicate w (.bool false)))) H1 ∧ H1.obj H0.size = .cells (F i)) _ 0 (Nat.zero_le _) ⟨e9, Upd.refl _ _, by simp [F0]⟩ ?_ ?_
  · rintro i f H1 hf - hi ⟨f9, k, hob⟩
    have w1 := i64w (n := (i : Int) + 1) (by omega) (by omega)
    have k1 := k.keeps k0 (Nat.le_refl _)
    have a1 := (hv.keep k1).ix (P := Go.Proofs.Try.prog) (t := T_s_bool) (by simp) (i := i) (by simpa using hi)
    have a2 := (hv.keep k1).at (P := Go.Proofs.Try.prog) (t := T_bool) (by simp) (i := i) (by simpa using hi)
    have b1 := (hv'.keep k1).ix (P := Go.Proofs.Try.prog) (t := T_s_bool) (by simp) (i := i) (by simpa using hi)
    have b2 := (hv'.keep k1).at (P := Go.Proofs.Try.prog) (t := T_bool) (by simp) (i := i) (by simpa using hi)
    rw [bl_getD] at a2 b2
    have hs := Fs i hi
    rw [hz i hi] at hs
    have hFl := Fl i (Nat.le_of_lt hi)
    have ci : (i : Int) < w := by omega
    have lo : H0.size < H1.size := by rw [k.size]; simp
    have hea := fun H => each_run (n := n) (p := x.getLsbD i) (q := y.getLsbD i) (H := H)
    generalize eb n (x.getLsbD i) (y.getLsbD i) = s at *
    generalize x.getLsbD i = p at *
    generalize y.getLsbD i = q at *
    simp (maxDischargeDepth := 40) [hf, e0, e1', e2', e8, f9, hl, hi, ci, a1, a2, b1, b2, hea, hob, hFl, hs, w1]
    exact k.set _
  · rintro f H1 hf ⟨f9, k, hob⟩
    simp [hf, e1', f9, hl]
    exact ⟨k.keeps k0 (Nat.le_refl _), by rw [k.size]; simp, hob⟩

/-- What the operators make of two words of a width. -/
def wordV {w : Nat} (n : Int) (x y : BitVec w) : BitVec w :=
  if n = 12 then x &&& y else if n = 13 then x ||| y else if n = 14 then x ^^^ y else if n = 15 then ~~~(x &&& y) else if n = 16 then ~~~(x ||| y) else if n = 17 then ~~~(x ^^^ y)
  else if n = 18 then x + y else if n = 19 then x - y else if n = 20 then x * y else if n = 21 then qB x y else if n = 22 then x % y else if n = 23 then sdivB x y else if n = 24 then sremB x y
  else if n = 25 then smodB x y else if n = 26 then x <<< shN y else if n = 27 then x >>> shN y else x.sshiftRight (shN y)
theorem wordV_bit {w : Nat} {n : Int} (h : 12 ≤ n ∧ n ≤ 17) (x y : BitVec w) : ∀ i, i < w → (wordV n x y).getLsbD i = eb n (x.getLsbD i) (y.getLsbD i) := by
  intro i hi
  rcases (show n = 12 ∨ n = 13 ∨ n = 14 ∨ n = 15 ∨ n = 16 ∨ n = 17 by omega) with rfl | rfl | rfl | rfl | rfl | rfl <;> simp only [wordV, eb] <;> simp only [Int.reduceEq, if_true, if_false, BitVec.getLsbD_and, BitVec.getLsbD_or, BitVec.getLsbD_xor, BitVec.getLsbD_not, hi, decide_true, Bool.true_and]
  all_goals cases x.getLsbD i <;> cases y.getLsbD i <;> rfl
theorem amt_shN {w : Nat} (y : BitVec w) : min y.toNat w = shN y := by unfold shN; split <;> omega

theorem back_tt {H : AHeap} {bs : List Bool} : back [0, 0] H (.tup [BL bs, .bool true]) H = (.tup [BL bs, .bool true], H) := by
  have k := Keeps.refl H
  have he : frz H H.size [0, 0] (.tup [BL bs, .bool true]) = .tup [BL bs, .bool true] := by rw [frz_tup]; simp [frz]
  rw [back_cons (by rw [he]; simp [closed, closedL]) k.shut, cut_keeps k, he]
theorem back_rt {H H' : AHeap} {o w : Nat} {bs : List Bool} (k : Keeps H H') (ho : H.size ≤ o) (h : H'.obj o = .cells (bs.map .bool)) (hl : bs.length = w) (hlt : o < H'.size) : back [0, 0] H (.tup [.row o 0 1 w true, .bool true]) H' = (.tup [BL bs, .bool true], H) := by
  have hf := frz_rb (H := H) (RB.row (full := true) hlt h hl.symm) (by simp) (by simpa using ho)
  have he : frz H' H.size [0, 0] (.tup [.row o 0 1 w true, .bool true]) = .tup [BL bs, .bool true] := by rw [frz_tup]; simp only [List.map_cons, List.map_nil, hf]; simp [frz]
  rw [back_cons (by rw [he]; simp [closed, closedL]) k.shut, cut_keeps k, he]

theorem rwords_run {w : Nat} (h1 : 1 ≤ w) (hw : w ≤ 128) {x y : BitVec w} {v v' : AV} {H : AHeap} (hv : RB H v (bl x)) (hv' : RB H v' (bl y)) {n : Int} : R f_plaitref1_words [.int .i64 n, v, v'] H = some (if 12 ≤ n ∧ n ≤ 28 then .tup [BL (bl (wordV n x y)), .bool true] else .tup [.nils, .bool false], H) := by
  generalize h : R f_plaitref1_words _ H = r
  rw [e_plaitref1_words] at h
  have hl := hv.len
  rw [bl_length] at hl
  have cc1 : (w : Int) ≤ 140737488355328 := by omega
  have cc2 : (w : Int) ≤ 9223372036854775807 := by omega
  by_cases hb : 12 ≤ n ∧ n ≤ 17
  · have hz := wordV_bit hb x y
    rw [if_pos (by omega)]
    generalize wordV n x y = z at *
    rcases (show n = 12 ∨ n = 13 ∨ n = 14 ∨ n = 15 ∨ n = 16 ∨ n = 17 by omega) with rfl | rfl | rfl | rfl | rfl | rfl
    all_goals
      simp (maxDischargeDepth := 40) [c_plaitref1_words, hl, cc1, cc2] at h
      generalize hL : loopL _ _ _ _ _ _ = q at h
      obtain ⟨yy, e1, H1, rfl, ⟨rfl, k1, z1, ob1⟩, fr⟩ := rwords_loop hw hz hv hv' hL (by simp) (by simp) (by simp) (by simp) (by simp)
      simp (maxDischargeDepth := 40) [fr] at h
      rw [back_rt k1 (Nat.le_refl _) ob1 (by simp) z1] at h
      exact h.symm
  have n1 : ¬ n = 12 := by omega
  have n2 : ¬ n = 13 := by omega
  have n3 : ¬ n = 14 := by omega
  have n4 : ¬ n = 15 := by omega
  have n5 : ¬ n = 16 := by omega
  have n6 : ¬ n = 17 := by omega
  by_cases hc : 18 ≤ n ∧ n ≤ 28
  rotate_left
  · rw [if_neg (by omega)]
    have m1 : ¬ n = 18 := by omega
    have m2 : ¬ n = 19 := by omega
    have m3 : ¬ n = 20 := by omega
    have m4 : ¬ n = 21 := by omega
    have m5 : ¬ n = 22 := by omega
    have m6 : ¬ n = 23 := by omega
    have m7 : ¬ n = 24 := by omega
    have m8 : ¬ n = 25 := by omega
    have m9 : ¬ n = 26 := by omega
    have m10 : ¬ n = 27 := by omega
    have m11 : ¬ n = 28 := by omega
    simp (maxDischargeDepth := 40) [c_plaitref1_words, n1, n2, n3, n4, n5, n6, m1, m2, m3, m4, m5, m6, m7, m8, m9, m10, m11, frz, closed, closedL] at h
    exact h.symm
  rw [if_pos (by omega)]
  obtain ⟨a, ha, ha2⟩ := rsize_run h1 hw hv
  obtain ⟨b, hb', hb2⟩ := rsize_run h1 hw hv'
  have hd2 := rdiv_run h1 hw ha2 hb2
  have hm1 := rminus_run h1 hw hv
  have hm2 := rminus_run h1 hw hv'
  have ham := ramount_run hw hv'
  rw [amt_shN] at ham
  have hsh := shN_le y
  clear hb n1 n2 n3 n4 n5 n6
  rcases (show n = 18 ∨ n = 19 ∨ n = 20 ∨ n = 21 ∨ n = 22 ∨ n = 23 ∨ n = 24 ∨ n = 25 ∨ n = 26 ∨ n = 27 ∨ n = 28 by omega) with rfl | rfl | rfl | rfl | rfl | rfl | rfl | rfl | rfl | rfl | rfl
  · have := radd_run hw (c := false) hv hv'
    rw [add_cw] at this
    simp (maxDischargeDepth := 40) [c_plaitref1_words, this] at h
    rw [← h]; simp [wordV]
  · have := rsub_run hw hv hv'
    simp (maxDischargeDepth := 40) [c_plaitref1_words, this] at h
    rw [← h]; simp [wordV]
  · have := rmul_run h1 hw hv hv'
    simp (maxDischargeDepth := 40) [c_plaitref1_words, this] at h
    rw [← h]; simp [wordV]
  · have := rdiv_run h1 hw hv hv'
    simp (maxDischargeDepth := 40) [c_plaitref1_words, this] at h
    rw [← h]; simp [wordV]
  · have := rdiv_run h1 hw hv hv'
    simp (maxDischargeDepth := 40) [c_plaitref1_words, this] at h
    rw [← h]; simp [wordV]
  · have hng := rneg_run hw (x := qB x.abs y.abs) (H := H) RB.lst
    cases d1 : x.msb <;> cases d2 : y.msb <;> rw [d1] at hm1 <;> rw [d2] at hm2 <;> simp (maxDischargeDepth := 40) [c_plaitref1_words, ha, hb', hd2, hm1, hm2, hng] at h <;> rw [← h] <;> simp [wordV, sdivB, d1, d2]
  · have hng := rneg_run hw (x := x.abs % y.abs) (H := H) RB.lst
    cases d1 : x.msb <;> rw [d1] at hm1 <;> simp (maxDischargeDepth := 40) [c_plaitref1_words, ha, hb', hd2, hm1, hng] at h <;> rw [← h] <;> simp [wordV, sremB, d1]
  · have := rsmod_run h1 hw hv hv'
    simp (maxDischargeDepth := 40) [c_plaitref1_words, this] at h
    rw [← h]; simp [wordV]
  · simp (maxDischargeDepth := 40) [c_plaitref1_words, ham] at h
    generalize hU : R f_plaitref1_up _ _ = qq at h
    obtain ⟨H2, rfl, k2, s2, ob2⟩ := rup_run hw (n := shN y) (by omega) hv hU
    simp (maxDischargeDepth := 40) at h
    rw [back_rt k2 (Nat.le_refl _) ob2 (by simp) (by omega)] at h
    rw [← h]; simp [wordV]
  · have := rdown_run hw (n := shN y) (by omega) (fill := false) hv
    rw [dnL_lshr] at this
    simp (maxDischargeDepth := 40) [c_plaitref1_words, ham, this] at h
    rw [← h]; simp [wordV]
  · have := rdown_run hw (n := shN y) (by omega) (fill := x.msb) hv
    rw [dnL_ashr] at this
    simp (maxDischargeDepth := 40) [c_plaitref1_words, ham, hm1, this] at h
    rw [← h]; simp [wordV]
end Go.Proofs.Ytcnhpkongbdihaa

/- The document's Two; New and Bit of both, on any values. -/
import Derived.Test.YtcnhpkongbdihaaBR7
namespace Go.Proofs.Ytcnhpkongbdihaa
set_option maxRecDepth 100000
set_option maxHeartbeats 4000000

theorem topN_E {w : Nat} (h1 : 1 ≤ w) (hw : w ≤ 128) (x : BitVec w) : E x ^^^ topN w = E (x ^^^ BitVec.twoPow w (w - 1)) := by
  apply BitVec.eq_of_getLsbD_eq
  intro i hi
  rw [BitVec.getLsbD_xor, E_bit hw, E_bit hw, BitVec.getLsbD_xor, BitVec.getLsbD_twoPow, topN, BitVec.getLsbD_shiftLeft, BitVec.getLsbD_one]
  congr 1
  by_cases c : w - 1 = i
  · subst c
    have h2 : w - 1 < w := by omega
    simp [hi, h2]
  · have : ¬ i - (w - 1) = 0 ∨ i < w - 1 := by omega
    rcases this with h | h
    · simp [c, h]
    · simp [c, h]
/-- The orders. -/
def cn {w : Nat} (n : Int) (x y : BitVec w) : Bool :=
  if n = 29 ∨ n = 33 then decide (x < y) else if n = 30 ∨ n = 34 then !decide (y < x) else if n = 31 ∨ n = 35 then decide (y < x) else !decide (x < y)
theorem cmpF_cn {w : Nat} (h1 : 1 ≤ w) (hw : w ≤ 128) (n : Int) (a b : BitVec w) : cmpF n a b = if n = 33 ∨ n = 34 ∨ n = 35 ∨ n = 36 then cn n (a ^^^ BitVec.twoPow w (w - 1)) (b ^^^ BitVec.twoPow w (w - 1)) else cn n a b := by
  unfold cmpF cmpN cn
  rw [topN_E h1 hw, topN_E h1 hw]
  simp only [E_lt hw]
theorem twoF_word {w : Nat} (hw : w ≤ 128) {n : Int} (h : 12 ≤ n ∧ n ≤ 28) (a b : BitVec w) : twoF n a b = B (wordV n a b) := by
  rcases (show n = 12 ∨ n = 13 ∨ n = 14 ∨ n = 15 ∨ n = 16 ∨ n = 17 ∨ n = 18 ∨ n = 19 ∨ n = 20 ∨ n = 21 ∨ n = 22 ∨ n = 23 ∨ n = 24 ∨ n = 25 ∨ n = 26 ∨ n = 27 ∨ n = 28 by omega) with rfl | rfl | rfl | rfl | rfl | rfl | rfl | rfl | rfl | rfl | rfl | rfl | rfl | rfl | rfl | rfl | rfl
  · rw [two_and hw]; simp [wordV]
  · rw [two_or hw]; simp [wordV]
  · rw [two_xor hw]; simp [wordV]
  · rw [two_nand hw]; simp [wordV]
  · rw [two_nor hw]; simp [wordV]
  · rw [two_xnor hw]; simp [wordV]
  · rw [two_add hw]; simp [wordV]
  · rw [two_sub hw]; simp [wordV]
  · rw [two_mul' hw]; simp [wordV]
  · rw [two_udiv hw]; simp [wordV]
  · rw [two_urem hw]; simp [wordV]
  · rw [two_sdiv hw]; simp [wordV]
  · rw [two_srem hw]; simp [wordV]
  · rw [two_smod hw]; simp [wordV]
  · rw [two_shl hw]; simp [wordV]
  · rw [two_lshr hw]; simp [wordV]
  · rw [two_ashr hw]; simp [wordV]

theorem reftwo_run {w : Nat} (h1 : 1 ≤ w) (hw : w ≤ 128) {n : Int} {a b : BitVec w} {H : AHeap} : R f_plaitref1_Two [.int .i64 n, .agg [.int .i64 w, u (lo (E a)), u (hi (E a))], .agg [.int .i64 w, u (lo (E b)), u (hi (E b))]] H = some (.tup [twoF n a b, .int .i64 (twoE n)], H) := by
  rw [e_plaitref1_Two]
  have r1 := fun H => refword_run (w := w) (l := lo (E a)) (h := hi (E a)) (H := H)
  have r2 := fun H => refword_run (w := w) (l := lo (E b)) (h := hi (E b)) (H := H)
  rw [isWd_B h1 hw a] at r1
  rw [isWd_B h1 hw b] at r2
  obtain ⟨H1, hb1, kb1, sb1, rb1⟩ := bitsB_run hw a (((H.new (.cells [.int .i64 w, u (lo (E a)), u (hi (E a))])).new (.cells [.int .i64 w, u (lo (E b)), u (hi (E b))])).new (.cells [.int .i64 0, u 0#64, u 0#64]))
  obtain ⟨H2, hb2, kb2, sb2, rb2⟩ := bitsB_run hw b H1
  have ke : Keeps H (((H.new (.cells [.int .i64 w, u (lo (E a)), u (hi (E a))])).new (.cells [.int .i64 w, u (lo (E b)), u (hi (E b))])).new (.cells [.int .i64 0, u 0#64, u 0#64])) := ((Keeps.new _ _).trans (Keeps.new _ _)).trans (Keeps.new _ _)
  have k2 : Keeps H H2 := (ke.trans kb1).trans kb2
  have kbb := kb1.trans kb2
  have o1b : H1.obj (H.size + 1) = .cells [.int .i64 w, u (lo (E b)), u (hi (E b))] := by rw [kb1.obj _ (by simp)]; simp
  have o2a : H2.obj H.size = .cells [.int .i64 w, u (lo (E a)), u (hi (E a))] := by rw [kbb.obj _ (by simp)]; simp
  have o2b : H2.obj (H.size + 1) = .cells [.int .i64 w, u (lo (E b)), u (hi (E b))] := by rw [kbb.obj _ (by simp)]; simp
  have o2z : H2.obj (H.size + 2) = .cells [.int .i64 0, u 0#64, u 0#64] := by rw [kbb.obj _ (by simp)]; simp
  simp only [new_size] at hb1 rb1 sb1
  rw [sb1] at hb2 rb2 sb2
  have rb1' := rb1.keep kb2
  have z2 : H.size + 2 < H2.size := by omega
  have kX : ∀ X, Keeps H (H2.set (H.size + 2) X) := fun X => k2.set (by omega) X
  have hws := rwords_run h1 hw rb1' rb2 (n := n)
  by_cases c1 : 12 ≤ n ∧ n ≤ 28
  · rw [if_pos c1] at hws
    have hwd := wordBL hw (wordV n a b) H2
    have he : twoE n = 0 := by unfold twoE; rw [if_pos (by omega)]
    rw [twoF_word hw c1, he]
    simp (maxDischargeDepth := 40) [c_plaitref1_Two, r1, r2, hb1, hb2, kb1, kb2, o1b, hws, hwd, o2z, kX, B, Bt]
  rw [if_neg c1] at hws
  have hbo := fun b H => refbool_run (b := b) (H := H)
  simp only [Bt] at hbo
  by_cases c2 : 29 ≤ n ∧ n ≤ 32
  · have hc := cmpF_cn h1 hw n a b
    rw [if_neg (by omega)] at hc
    have he : twoE n = 0 := by unfold twoE; rw [if_pos (by omega)]
    have hf : twoF n a b = BB (cn n a b) := by
      unfold twoF
      rw [if_neg (by omega), if_neg (by omega), if_neg (by omega), if_pos (by omega), hc]
    have hl1 := rbelow_run hw rb1' rb2
    have hl2 := rbelow_run hw rb2 rb1'
    rw [hf, he]
    unfold cn BB Bt
    rcases (show n = 29 ∨ n = 30 ∨ n = 31 ∨ n = 32 by omega) with rfl | rfl | rfl | rfl
    all_goals
      generalize decide (a < b) = p at *
      generalize decide (b < a) = q at *
      cases p <;> cases q <;> simp (maxDischargeDepth := 40) [c_plaitref1_Two, r1, r2, hb1, hb2, kb1, kb2, o1b, hws, hl1, hl2, hbo, o2z, kX]
  by_cases c3 : 33 ≤ n ∧ n ≤ 36
  · have hc := cmpF_cn h1 hw n a b
    rw [if_pos (by omega)] at hc
    have he : twoE n = 0 := by unfold twoE; rw [if_pos (by omega)]
    have hf : twoF n a b = BB (cn n (a ^^^ BitVec.twoPow w (w - 1)) (b ^^^ BitVec.twoPow w (w - 1))) := by
      unfold twoF
      rw [if_neg (by omega), if_neg (by omega), if_neg (by omega), if_pos (by omega), hc]
    have t1 := rturned_run h1 hw rb1'
    have t2 := rturned_run h1 hw rb2
    have hl1 := rbelow_run hw (H := H2) (x := a ^^^ BitVec.twoPow w (w - 1)) (y := b ^^^ BitVec.twoPow w (w - 1)) RB.lst RB.lst
    have hl2 := rbelow_run hw (H := H2) (x := b ^^^ BitVec.twoPow w (w - 1)) (y := a ^^^ BitVec.twoPow w (w - 1)) RB.lst RB.lst
    rw [hf, he]
    unfold cn BB Bt
    generalize a ^^^ BitVec.twoPow w (w - 1) = a' at *
    generalize b ^^^ BitVec.twoPow w (w - 1) = b' at *
    rcases (show n = 33 ∨ n = 34 ∨ n = 35 ∨ n = 36 by omega) with rfl | rfl | rfl | rfl
    all_goals
      generalize decide (a' < b') = p at *
      generalize decide (b' < a') = q at *
      cases p <;> cases q <;> simp (maxDischargeDepth := 40) [c_plaitref1_Two, r1, r2, hb1, hb2, kb1, kb2, o1b, hws, t1, t2, hl1, hl2, hbo, o2z, kX]
  have n1 : ¬ n = 29 := by omega
  have n2 : ¬ n = 30 := by omega
  have n3 : ¬ n = 31 := by omega
  have n4 : ¬ n = 32 := by omega
  have n5 : ¬ n = 33 := by omega
  have n6 : ¬ n = 34 := by omega
  have n7 : ¬ n = 35 := by omega
  have n8 : ¬ n = 36 := by omega
  have hpd := pair_dec (E a) (E b)
  have hee : decide (E a = E b) = decide (a = b) := by rw [decide_eq_decide]; exact E_iff hw a b
  rw [hee] at hpd
  by_cases c4 : n = 8
  · subst c4
    have he : twoE 8 = 0 := rfl
    rw [two_eq, he]
    unfold BB Bt
    generalize decide (a = b) = p at *
    cases p <;> simp (maxDischargeDepth := 40) [c_plaitref1_Two, r1, r2, hb1, hb2, kb1, kb2, o1b, o2a, o2b, hws, hpd, hbo, o2z, kX]
  by_cases c5 : n = 37
  · subst c5
    have he : twoE 37 = 0 := rfl
    rw [two_comp, he]
    have hwd : ∀ p, R f_plaitref1_Word [.row H2.size 0 1 1 true] (H2.new (.cells [.bool p])) = some (.agg [.int .i64 1, u (lo (E (if p = true then 1#1 else 0#1))), u (hi (E (if p = true then 1#1 else 0#1)))], H2.new (.cells [.bool p])) := fun p => by
      have := (wordR_run (H := H2.new (.cells [.bool p])) (v := .row H2.size 0 1 1 true) (bs := bl (if p = true then 1#1 else 0#1)) (RB.row (by simp) (by simp; cases p <;> simp [bl]) (by simp)) (by simp)).run
      rw [wv_bl (by omega)] at this
      simpa [Bt] using this
    rw [show (if a = b then 1#1 else 0#1) = if decide (a = b) = true then 1#1 else 0#1 from by simp only [decide_eq_true_eq]]
    have z3 : H.size + 2 < H2.size + 1 := by omega
    have z4 : ¬ H.size + 2 = H2.size := by omega
    have kY : ∀ c X, Keeps H ((H2.new c).set (H.size + 2) X) := fun c X => (k2.new' c).set (by omega) X
    unfold B Bt
    generalize decide (a = b) = p at *
    have hwp := hwd p
    generalize (if p = true then 1#1 else 0#1) = zz at *
    simp (maxDischargeDepth := 40) [c_plaitref1_Two, r1, r2, hb1, hb2, kb1, kb2, o1b, o2a, o2b, hws, hpd, hwp, o2z, z4, kY]
  · have he : twoE n = 11 := by unfold twoE; rw [if_neg (by omega)]
    have hf : twoF n a b = Bt 0 0#128 := by
      unfold twoF
      rw [if_neg (by omega), if_neg (by omega), if_neg (by omega), if_neg (by omega), if_neg c4, if_neg c5]
    rw [he, hf, zeroB]
    simp (maxDischargeDepth := 40) [c_plaitref1_Two, r1, r2, hb1, hb2, kb1, kb2, o1b, hws, n1, n2, n3, n4, n5, n6, n7, n8, c4, c5, k2, o2z]
end Go.Proofs.Ytcnhpkongbdihaa

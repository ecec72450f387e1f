/- The document's operators on any values, and bv's: Two, One, Bit, New, Bool. -/
import Derived.Test.YtcnhpkongbdihaaBR6
import Derived.Test.YtcnhpkongbdihaaBRN
import Derived.Test.YtcnhpkongbdihaaBVR
namespace Go.Proofs.Ytcnhpkongbdihaa
set_option maxRecDepth 100000
set_option maxHeartbeats 4000000

/-- Any value in cells. -/
def AB (w : Int) (l h : BitVec 64) : AV := .agg [.int .i64 w, u l, u h]
/-- Is it a word? -/
def isWd (w : Int) (l h : BitVec 64) : Bool := !decide (w = 0) && rightF w l h
theorem isWd_word {w : Int} {l h : BitVec 64} (hw : isWd w l h = true) : ∃ (n : Nat) (x : BitVec n), 1 ≤ n ∧ n ≤ 128 ∧ w = n ∧ l = lo (E x) ∧ h = hi (E x) := by
  unfold isWd rightF at hw
  simp only [Bool.and_eq_true, Bool.not_eq_true', decide_eq_false_iff_not] at hw
  obtain ⟨h0, h1⟩ := hw
  rw [if_neg h0] at h1
  simp only [Bool.and_eq_true, decide_eq_true_eq] at h1
  obtain ⟨⟨h2, h3⟩, h4⟩ := h1
  have hn : w.toNat ≤ 128 := by omega
  refine ⟨w.toNat, (mkN l h).setWidth w.toNat, by omega, hn, by omega, ?_, ?_⟩
  · rw [← cut_E hn, h4, lo_mk]
  · rw [← cut_E hn, h4, hi_mk]
theorem isWd_B {n : Nat} (h1 : 1 ≤ n) (hn : n ≤ 128) (x : BitVec n) : isWd n (lo (E x)) (hi (E x)) = true := by
  have e : mkN (lo (E x)) (hi (E x)) = E x := pair_ext (by rw [lo_mk]) (by rw [hi_mk])
  have h0 : ¬ (n : Int) = 0 := by omega
  unfold isWd rightF
  rw [if_neg h0, e, Int.toNat_natCast, cut_E hn, E_set hn]
  simp; omega
theorem bvword_run {w : Int} {l h : BitVec 64} {H : AHeap} : R f_bv_word [.agg [.int .i64 w, u l, u h]] H = some (.bool (isWd w l h), H) := by
  rw [e_bv_word]
  have r := fun H => bvRight_run (w := w) (l := l) (h := h) (H := H)
  unfold isWd
  by_cases c : w = 0
  · subst c; simp (maxDischargeDepth := 40) [c_bv_word]
  · simp (maxDischargeDepth := 40) [c_bv_word, c, r]
theorem refword_run {w : Int} {l h : BitVec 64} {H : AHeap} : R f_plaitref1_word [.agg [.int .i64 w, u l, u h]] H = some (.bool (isWd w l h), H) := by
  rw [e_plaitref1_word]
  have r := fun H => rightR_run (w := w) (l := l) (h := h) (H := H)
  unfold isWd
  cases hr : rightF w l h with
  | false => rw [hr] at r; simp (maxDischargeDepth := 40) [c_plaitref1_word, r]
  | true =>
    rw [hr] at r
    have hw : 0 ≤ w := by
      unfold rightF at hr
      split at hr
      · omega
      · simp only [Bool.and_eq_true, decide_eq_true_eq] at hr; omega
    by_cases c : w = 0
    · subst c; simp (maxDischargeDepth := 40) [c_plaitref1_word, r]
    · have c' : 0 < w := by omega
      simp (maxDischargeDepth := 40) [c_plaitref1_word, r, c, c']

theorem refbool_run {b : Bool} {H : AHeap} : R f_plaitref1_Bool [.bool b] H = some (Bt 0 (if b = true then 1#128 else 0#128), H) := by
  rw [e_plaitref1_Bool]
  cases b <;> simp (maxDischargeDepth := 9) [c_plaitref1_Bool, Bt, show lo (1#128) = 1#64 from rfl, show hi (1#128) = 0#64 from rfl, show hi (0#128 : W128) = 0#64 from rfl, show lo (0#128 : W128) = 0#64 from rfl]

theorem zeroB : Bt 0 0#128 = .agg [.int .i64 0, u 0#64, u 0#64] := by
  simp [Bt, show hi (0#128 : W128) = 0#64 from rfl, show lo (0#128 : W128) = 0#64 from rfl]

/-! Where it isn't two words of a width. -/
theorem bvtwo_bad {n w w' : Int} {l h l' h' : BitVec 64} (hb : isWd w l h = false ∨ isWd w' l' h' = false ∨ ¬ w = w') {H : AHeap} : R f_bv_Two [.int .i64 n, .agg [.int .i64 w, u l, u h], .agg [.int .i64 w', u l', u h']] H = some (.tup [Bt 0 0#128, .int .i64 10], H) := by
  rw [e_bv_Two, zeroB]
  have r1 := fun H => bvword_run (w := w) (l := l) (h := h) (H := H)
  have r2 := fun H => bvword_run (w := w') (l := l') (h := h') (H := H)
  cases h1 : isWd w l h with
  | false => rw [h1] at r1; simp (maxDischargeDepth := 40) [c_bv_Two, r1]
  | true =>
    rw [h1] at r1
    cases h2 : isWd w' l' h' with
    | false => rw [h2] at r2; simp (maxDischargeDepth := 40) [c_bv_Two, r1, r2]
    | true =>
      rw [h2] at r2
      have hn : ¬ w = w' := by
        rcases hb with hb | hb | hb
        · rw [h1] at hb; cases hb
        · rw [h2] at hb; cases hb
        · exact hb
      simp (maxDischargeDepth := 40) [c_bv_Two, r1, r2, hn]
theorem reftwo_bad {n w w' : Int} {l h l' h' : BitVec 64} (hb : isWd w l h = false ∨ isWd w' l' h' = false ∨ ¬ w = w') {H : AHeap} : R f_plaitref1_Two [.int .i64 n, .agg [.int .i64 w, u l, u h], .agg [.int .i64 w', u l', u h']] H = some (.tup [Bt 0 0#128, .int .i64 10], H) := by
  rw [e_plaitref1_Two, zeroB]
  have r1 := fun H => refword_run (w := w) (l := l) (h := h) (H := H)
  have r2 := fun H => refword_run (w := w') (l := l') (h := h') (H := H)
  cases h1 : isWd w l h with
  | false => rw [h1] at r1; simp (maxDischargeDepth := 40) [c_plaitref1_Two, r1]
  | true =>
    rw [h1] at r1
    cases h2 : isWd w' l' h' with
    | false => rw [h2] at r2; simp (maxDischargeDepth := 40) [c_plaitref1_Two, r1, r2]
    | true =>
      rw [h2] at r2
      have hn : ¬ w = w' := by
        rcases hb with hb | hb | hb
        · rw [h1] at hb; cases hb
        · rw [h2] at hb; cases hb
        · exact hb
      simp (maxDischargeDepth := 40) [c_plaitref1_Two, r1, r2, hn]
theorem bvone_bad {n w : Int} {l h : BitVec 64} (hb : isWd w l h = false) {H : AHeap} : R f_bv_One [.int .i64 n, .agg [.int .i64 w, u l, u h]] H = some (.tup [Bt 0 0#128, .int .i64 10], H) := by
  rw [e_bv_One, zeroB]
  have r1 := fun H => bvword_run (w := w) (l := l) (h := h) (H := H)
  rw [hb] at r1
  simp (maxDischargeDepth := 40) [c_bv_One, r1]
theorem refone_bad {n w : Int} {l h : BitVec 64} (hb : isWd w l h = false) {H : AHeap} : R f_plaitref1_One [.int .i64 n, .agg [.int .i64 w, u l, u h]] H = some (.tup [Bt 0 0#128, .int .i64 10], H) := by
  rw [e_plaitref1_One, zeroB]
  have r1 := fun H => refword_run (w := w) (l := l) (h := h) (H := H)
  rw [hb] at r1
  simp (maxDischargeDepth := 40) [c_plaitref1_One, r1]

/-! The document's One. -/
theorem wordBL {w : Nat} (hw : w ≤ 128) (z : BitVec w) (H : AHeap) : R f_plaitref1_Word [BL (bl z)] H = some (.agg [.int .i64 w, u (lo (E z)), u (hi (E z))], H) := by
  have := (wordR_run (RB.lst (H := H) (bs := bl z)) (by simpa using hw)).run
  rw [bl_length, wv_bl hw] at this
  exact this
/-- A word's bits, in a row of their own. -/
theorem bitsB_run {w : Nat} (hw : w ≤ 128) (x : BitVec w) (H : AHeap) : ∃ H', R f_plaitref1_Bits [.agg [.int .i64 w, u (lo (E x)), u (hi (E x))]] H = some (.row (H.size + 1) 0 1 w true, H') ∧ Keeps H H' ∧ H'.size = H.size + 2 ∧ RB H' (.row (H.size + 1) 0 1 w true) (bl x) := by
  obtain ⟨H', g1, g2, g3, g4⟩ := (bits_run hw (x := E x) (H := H)).ex
  rw [bn_E hw] at g4
  exact ⟨H', g1, g2, g3, RB.row (by omega) g4 (by simp)⟩
theorem refone_run {w : Nat} (h1 : 1 ≤ w) (hw : w ≤ 128) {n : Int} {a : BitVec w} {H : AHeap} : R f_plaitref1_One [.int .i64 n, .agg [.int .i64 w, u (lo (E a)), u (hi (E a))]] H = some (.tup [oneF n a, .int .i64 (if n = 10 ∨ n = 11 then 0 else 11)], H) := by
  rw [e_plaitref1_One]
  have r1 := fun H => refword_run (w := w) (l := lo (E a)) (h := hi (E a)) (H := H)
  rw [isWd_B h1 hw a] at r1
  obtain ⟨H1, hb, kb, sb, rb⟩ := bitsB_run hw a ((H.new (.cells [.int .i64 w, u (lo (E a)), u (hi (E a))])).new (.cells [.int .i64 0, u 0#64, u 0#64]))
  have k1 : Keeps H H1 := ((Keeps.new _ _).trans (Keeps.new _ _)).trans kb
  have o1 : H1.obj (H.size + 1) = .cells [.int .i64 0, u 0#64, u 0#64] := by rw [kb.obj _ (by simp)]; simp
  simp only [new_size] at hb rb sb
  have z1 : H.size + 1 < H1.size := by omega
  have k2 : ∀ X, Keeps H (H1.set (H.size + 1) X) := fun X => k1.set (Nat.le_succ _) X
  by_cases c1 : n = 10
  · subst c1
    have hn := rnot_run hw rb
    have hwd := wordBL hw (~~~a)
    simp (maxDischargeDepth := 40) [c_plaitref1_One, r1, hb, hn, hwd, o1, k2, oneF, B, Bt]
  by_cases c2 : n = 11
  · subst c2
    have hn := rneg_run hw rb
    have hwd := wordBL hw (-a)
    simp (maxDischargeDepth := 40) [c_plaitref1_One, r1, hb, hn, hwd, o1, k2, oneF, B, Bt]
  · simp (maxDischargeDepth := 40) [c_plaitref1_One, r1, c1, c2, oneF, zeroB]
end Go.Proofs.Ytcnhpkongbdihaa

/- The law BvShapes. -/
import Derived.Test.YtcnhpkongbdihaaBRO
namespace Go.Proofs.Ytcnhpkongbdihaa
set_option maxRecDepth 100000
set_option maxHeartbeats 4000000

theorem wv_eq {s : Nat} {bs : List Bool} (hl : bs.length = s) (hs : s ≤ 128) {z : W128} (h : ∀ i, i < s → bs.getD i false = z.getLsbD i) : wv bs = E (z.setWidth s) := by
  apply BitVec.eq_of_getLsbD_eq
  intro i hi
  rw [wv_bit, E_bit hs, BitVec.getLsbD_setWidth]
  by_cases c : i < s
  · rw [h i c]; simp [hi, c]
  · have : bs.getD i false = false := by rw [List.getD_eq_getElem?_getD, List.getElem?_eq_none (by omega)]; rfl
    rw [this]; simp [c]
/-- Word of bits that are those of a number. -/
theorem wordL {s : Nat} {bs : List Bool} {v : AV} {H : AHeap} (hv : RB H v bs) (hl : bs.length = s) (hs : s ≤ 128) {z : W128} (h : ∀ i, i < s → bs.getD i false = z.getLsbD i) : R f_plaitref1_Word [v] H = some (.agg [.int .i64 s, u (lo (E (z.setWidth s))), u (hi (E (z.setWidth s)))], H) := by
  have := (wordR_run hv (by omega)).run
  rw [wv_eq hl hs h, hl] at this
  exact this
theorem RB.lt {H : AHeap} {v : AV} {bs : List Bool} (h : RB H v bs) : ∀ p, p ∈ objs v → p < H.size := fun _ hp => Reads.lt h hp
theorem appB {H : AHeap} {v w : AV} {bs cs : List Bool} {r : Option (AV × AHeap)} (hA : appU H v w (some (1, 1, [.bool false])) = r) (hv : RB H v bs) (hg : grows v) (hw : RB H w cs) (hm : 0 < cs.length) (hl : bs.length + cs.length ≤ 100000) :
    ∃ H', r = some (.row H.size 0 1 (bs.length + cs.length) false, H') ∧ Fr (objs v) H H' ∧ H'.size = H.size + 1 ∧ RB H' (.row H.size 0 1 (bs.length + cs.length) false) (bs ++ cs) := by
  obtain ⟨H1, rfl, f1, s1, oo, -⟩ := app_of hA hv hg hw hm rfl (by omega) (by omega) (by omega) (allOne_bits _)
  exact ⟨H1, rfl, f1, s1, RB.row (by omega) (by rw [oo, List.map_append]) (by simp)⟩

/-- A word's bits, in some new row. -/
theorem bitsV_run {w : Nat} (hw : w ≤ 128) (x : BitVec w) (H : AHeap) : ∃ v H', R f_plaitref1_Bits [.agg [.int .i64 w, u (lo (E x)), u (hi (E x))]] H = some (v, H') ∧ Keeps H H' ∧ H'.size = H.size + 2 ∧ RB H' v (bl x) ∧ grows v ∧ ∀ p, p ∈ objs v → H.size < p := by
  obtain ⟨H', h1, h2, h3, h4⟩ := bitsB_run hw x H
  exact ⟨_, H', h1, h2, h3, h4, by simp, by simp⟩
theorem concat_same (w w' : Int) (l h l' h' : BitVec 64) : ∃ (k : Int) (p q : BitVec 64) (e : Int), (∀ H, R f_bv_Concat [.agg [.int .i64 w, u l, u h], .agg [.int .i64 w', u l', u h']] H = some (.tup [.agg [.int .i64 k, u p, u q], .int .i64 e], H)) ∧ ∀ H, R f_plaitref1_Concat [.agg [.int .i64 w, u l, u h], .agg [.int .i64 w', u l', u h']] H = some (.tup [.agg [.int .i64 k, u p, u q], .int .i64 e], H) := by
  have r1 := fun H => bvword_run (w := w) (l := l) (h := h) (H := H)
  have r2 := fun H => refword_run (w := w) (l := l) (h := h) (H := H)
  have s1 := fun H => bvword_run (w := w') (l := l') (h := h') (H := H)
  have s2 := fun H => refword_run (w := w') (l := l') (h := h') (H := H)
  cases h1 : isWd w l h with
  | false =>
    rw [h1] at r1 r2
    refine ⟨0, 0#64, 0#64, 10, fun H => ?_, fun H => ?_⟩
    · rw [e_bv_Concat]; simp (maxDischargeDepth := 40) [c_bv_Concat, r1]
    · rw [e_plaitref1_Concat]; simp (maxDischargeDepth := 40) [c_plaitref1_Concat, r2]
  | true =>
    rw [h1] at r1 r2
    cases h2 : isWd w' l' h' with
    | false =>
      rw [h2] at s1 s2
      refine ⟨0, 0#64, 0#64, 10, fun H => ?_, fun H => ?_⟩
      · rw [e_bv_Concat]; simp (maxDischargeDepth := 40) [c_bv_Concat, r1, s1]
      · rw [e_plaitref1_Concat]; simp (maxDischargeDepth := 40) [c_plaitref1_Concat, r2, s2]
    | true =>
      rw [h2] at s1 s2
      obtain ⟨m, x, m1, m2, rfl, rfl, rfl⟩ := isWd_word h1
      obtain ⟨n, y, n1, n2, rfl, rfl, rfl⟩ := isWd_word h2
      have w1 : IntKind.i64.wrap ((m : Int) + (n : Int)) = (m : Int) + (n : Int) := i64w (by omega) (by omega)
      by_cases c : 128 < m + n
      · have c' : 128 < (m : Int) + (n : Int) := by omega
        refine ⟨0, 0#64, 0#64, 10, fun H => ?_, fun H => ?_⟩
        · rw [e_bv_Concat]; simp (maxDischargeDepth := 40) [c_bv_Concat, r1, s1, w1, c']
        · rw [e_plaitref1_Concat]; simp (maxDischargeDepth := 40) [c_plaitref1_Concat, r2, s2, w1, c']
      · have c' : ¬ 128 < (m : Int) + (n : Int) := by omega
        have hmn : m + n ≤ 128 := by omega
        refine ⟨(m + n : Nat), lo (E ((E x <<< n ||| E y).setWidth (m + n))), hi (E ((E x <<< n ||| E y).setWidth (m + n))), 0, fun H => ?_, fun H => ?_⟩
        · exact (concat_run m1 n1 rfl hmn).run
        · rw [e_plaitref1_Concat]
          obtain ⟨v1, H1, hb1, kb1, sb1, rb1, gr1, nv1⟩ := bitsV_run n2 y (((H.new (.cells [.int .i64 m, u (lo (E x)), u (hi (E x))])).new (.cells [.int .i64 n, u (lo (E y)), u (hi (E y))])).new (.cells [.int .i64 0, u 0#64, u 0#64]))
          obtain ⟨v2, H2, hb2, kb2, sb2, rb2, -, -⟩ := bitsV_run m2 x H1
          have ke : Keeps H (((H.new (.cells [.int .i64 m, u (lo (E x)), u (hi (E x))])).new (.cells [.int .i64 n, u (lo (E y)), u (hi (E y))])).new (.cells [.int .i64 0, u 0#64, u 0#64])) := ((Keeps.new _ _).trans (Keeps.new _ _)).trans (Keeps.new _ _)
          have k2 : Keeps H H2 := (ke.trans kb1).trans kb2
          have kbb := kb1.trans kb2
          have o1b : H1.obj H.size = .cells [.int .i64 m, u (lo (E x)), u (hi (E x))] := by rw [kb1.obj _ (by simp)]; simp
          have o2z : H2.obj (H.size + 2) = .cells [.int .i64 0, u 0#64, u 0#64] := by rw [kbb.obj _ (by simp)]; simp
          have z2 : H.size + 2 < H2.size := by simp only [new_size] at sb1; omega
          have rb1' := rb1.keep kb2
          generalize hA : appU H2 v1 v2 (some (1, 1, [.bool false])) = q
          have hA0 := hA
          obtain ⟨H3, rfl, f3, s3, rb3⟩ := appB hA rb1' gr1 rb2 (by simp; omega) (by simp; omega)
          simp only [new_size] at nv1
          have k3 : Keeps H H3 := f3.keeps k2 (fun p hp => by have := nv1 p hp; omega)
          have o3z : H3.obj (H.size + 2) = .cells [.int .i64 0, u 0#64, u 0#64] := by rw [f3.obj _ z2 (fun hp => by have := nv1 _ hp; omega)]; exact o2z
          have hwd := wordL rb3 (s := m + n) (by simp; omega) hmn (z := E x <<< n ||| E y) (fun i hi => by
            rw [BitVec.getLsbD_or, BitVec.getLsbD_shiftLeft, List.getD_eq_getElem?_getD, List.getElem?_append]
            by_cases c : i < n
            · rw [if_pos (by simpa using c), ← List.getD_eq_getElem?_getD, bl_getD, E_bit n2]; simp [c]
            · rw [if_neg (by simpa using c), ← List.getD_eq_getElem?_getD, bl_getD, E_bit n2, E_bit m2, bl_length, BitVec.getLsbD_of_ge y i (by omega)]
              have : i < 128 := by omega
              simp [c, this])
          have z3 : H.size + 2 < H3.size := by omega
          have kX : ∀ X, Keeps H (H3.set (H.size + 2) X) := fun X => k3.set (by omega) X
          generalize (AV.row H2.size 0 1 ((bl y).length + (bl x).length) false) = v3 at *
          generalize E ((E x <<< n ||| E y).setWidth (m + n)) = zz at *
          simp (maxDischargeDepth := 40) (maxSteps := 300000) [c_plaitref1_Concat, r2, s2, w1, c', hb1, hb2, kb1, kb2, o1b, hA0, hwd, o3z, z3, kX]
end Go.Proofs.Ytcnhpkongbdihaa

/- Extract, Extend, Rotate, Repeat of both, on any values. -/
import Derived.Test.YtcnhpkongbdihaaBRS
namespace Go.Proofs.Ytcnhpkongbdihaa
set_option maxRecDepth 100000
set_option maxHeartbeats 2000000

theorem aslice_row {P : Program} {H : AHeap} {t : TypeId} {sz o off n : Nat} {full : Bool} (h : eszS P t = some sz) {l k : Nat} (hlk : l ≤ k) (hkn : k ≤ n) : aslice P H t (.row o off sz n full) (some (.int .i64 (l : Int))) (some (.int .i64 (k : Int))) none = some (.row o (off + l * sz) sz (k - l) (full && decide ((k : Int) = n))) := by
  have h2 : (l : Int) ≤ k := by omega
  have h3 : (k : Int) ≤ n := by omega
  have h4 : ((k : Int) - l).toNat = k - l := by omega
  unfold eszS at h
  unfold aslice
  cases hu : P.underlying t with
  | none => rw [hu] at h; cases h
  | some d =>
    rw [hu] at h
    cases d <;> first | (cases h; done) | skip
    simp only at h
    simp [h, h2, h3, h4]
theorem extract_same (w i j : Int) (l h : BitVec 64) : ∃ (k : Int) (p q : BitVec 64) (e : Int), (∀ H, R f_bv_Extract [.agg [.int .i64 w, u l, u h], .int .i64 i, .int .i64 j] H = some (.tup [.agg [.int .i64 k, u p, u q], .int .i64 e], H)) ∧ ∀ H, R f_plaitref1_Extract [.agg [.int .i64 w, u l, u h], .int .i64 i, .int .i64 j] H = some (.tup [.agg [.int .i64 k, u p, u q], .int .i64 e], H) := by
  have r1 := fun H => bvword_run (w := w) (l := l) (h := h) (H := H)
  have r2 := fun H => refword_run (w := w) (l := l) (h := h) (H := H)
  cases h1 : isWd w l h with
  | false =>
    rw [h1] at r1 r2
    refine ⟨0, 0#64, 0#64, 10, fun H => ?_, fun H => ?_⟩
    · rw [e_bv_Extract]; simp (maxDischargeDepth := 40) [c_bv_Extract, r1]
    · rw [e_plaitref1_Extract]; simp (maxDischargeDepth := 40) [c_plaitref1_Extract, r2]
  | true =>
    rw [h1] at r1 r2
    obtain ⟨m, x, m1, m2, rfl, rfl, rfl⟩ := isWd_word h1
    by_cases c1 : j < 0
    · refine ⟨0, 0#64, 0#64, 12, fun H => ?_, fun H => ?_⟩
      · rw [e_bv_Extract]; simp (maxDischargeDepth := 40) [c_bv_Extract, r1, c1]
      · rw [e_plaitref1_Extract]; simp (maxDischargeDepth := 40) [c_plaitref1_Extract, r2, c1]
    by_cases c2 : i < j
    · refine ⟨0, 0#64, 0#64, 12, fun H => ?_, fun H => ?_⟩
      · rw [e_bv_Extract]; simp (maxDischargeDepth := 40) [c_bv_Extract, r1, c1, c2]
      · rw [e_plaitref1_Extract]; simp (maxDischargeDepth := 40) [c_plaitref1_Extract, r2, c1, c2]
    by_cases c3 : (m : Int) ≤ i
    · refine ⟨0, 0#64, 0#64, 12, fun H => ?_, fun H => ?_⟩
      · rw [e_bv_Extract]; simp (maxDischargeDepth := 40) [c_bv_Extract, r1, c1, c2, c3]
      · rw [e_plaitref1_Extract]; simp (maxDischargeDepth := 40) [c_plaitref1_Extract, r2, c1, c2, c3]
    obtain ⟨b, rfl⟩ := Int.eq_ofNat_of_zero_le (show 0 ≤ j by omega)
    obtain ⟨d, rfl⟩ : ∃ d : Nat, i = ((b + d : Nat) : Int) := ⟨(i - b).toNat, by omega⟩
    have hbd : b + d < m := by omega
    refine ⟨(d + 1 : Nat), lo (E ((E x >>> b).setWidth (d + 1))), hi (E ((E x >>> b).setWidth (d + 1))), 0, fun H => ?_, fun H => ?_⟩
    · exact (extract_run m1 m2 rfl hbd rfl).run
    · rw [e_plaitref1_Extract]
      obtain ⟨H1, hb1, kb1, sb1, rb1⟩ := bitsB_run m2 x ((H.new (.cells [.int .i64 m, u (lo (E x)), u (hi (E x))])).new (.cells [.int .i64 0, u 0#64, u 0#64]))
      have k1 : Keeps H H1 := ((Keeps.new _ _).trans (Keeps.new _ _)).trans kb1
      have o1z : H1.obj (H.size + 1) = .cells [.int .i64 0, u 0#64, u 0#64] := by rw [kb1.obj _ (by simp)]; simp
      simp only [new_size] at hb1 rb1 sb1
      have w1 : IntKind.i64.wrap (((b + d : Nat) : Int) + 1) = ((b + d : Nat) : Int) + 1 := i64w (by omega) (by omega)
      have hsl := aslice_row (P := Go.Proofs.Try.prog) (H := H1) (t := T_s_bool) (sz := 1) (o := H.size + 1 + 1 + 1) (off := 0) (n := m) (full := true) (by simp) (l := b) (k := b + d + 1) (by omega) (by omega)
      have e1 : ((b + d + 1 : Nat) : Int) = ((b + d : Nat) : Int) + 1 := by omega
      have e2 : b + d + 1 - b = d + 1 := by omega
      rw [e1, e2] at hsl
      have hrow : RB H1 (.row (H.size + 1 + 1 + 1) (0 + b * 1) 1 (d + 1) (true && decide (((b + d : Nat) : Int) + 1 = (m : Int)))) (((bl x).drop b).take (d + 1)) := by
        have h4 := rb1.own
        have h2 := rb1.cells
        unfold sliceCells at h2
        simp only at h2
        split at h2 <;> first | (cases h2; done) | skip
        rename_i all hob
        split at h2 <;> first | (cases h2; done) | skip
        rename_i hle
        simp only [Option.some.injEq] at h2
        have := Reads.row (full := (true && decide (((b + d : Nat) : Int) + 1 = (m : Int)))) (off := 0 + b * 1) (n := d + 1) (sz := 1) h4.2 hob (by omega)
        unfold RB
        have hl : (((bl x).drop b).take (d + 1)).length = d + 1 := by simp; omega
        rw [hl]
        have hc : (((bl x).drop b).take (d + 1)).map AV.bool = (all.drop (0 + b * 1)).take ((d + 1) * 1) := by
          rw [List.map_take, List.map_drop, ← h2]
          simp only [List.drop_zero, Nat.mul_one, Nat.zero_add]
          rw [List.drop_take, List.take_take, Nat.min_eq_left (by omega)]
        rw [hc]; exact this
      have hwd := wordL hrow (s := d + 1) (by simp; omega) (by omega) (z := E x >>> b) (fun i hi => by
        rw [BitVec.getLsbD_ushiftRight, E_bit m2, List.getD_eq_getElem?_getD, List.getElem?_take, if_pos hi, List.getElem?_drop, ← List.getD_eq_getElem?_getD, bl_getD])
      generalize (AV.row (H.size + 1 + 1 + 1) (0 + b * 1) 1 (d + 1) (true && decide (((b + d : Nat) : Int) + 1 = (m : Int)))) = sv at *
      generalize hi : ((b + d : Nat) : Int) = I at *
      have z1 : H.size + 1 < H1.size := by omega
      have kX : ∀ X, Keeps H (H1.set (H.size + 1) X) := fun X => k1.set (by omega) X
      generalize E ((E x >>> b).setWidth (d + 1)) = zz at *
      simp (maxDischargeDepth := 40) (maxSteps := 300000) [c_plaitref1_Extract, r2, c1, c2, c3, w1, hb1, hsl, hwd, o1z, z1, kX]

theorem rext_loop {H : AHeap} {v : AV} {w n : Nat} {bs : List Bool} {fill : Bool} (hv : RB H v bs) (hg : grows v) (hl : bs.length = w) (hm : w + n ≤ 1000) {B0 : Nat} (hB : B0 ≤ H.size) (ho : ∀ p, p ∈ objs v → B0 < p) {e : Env} {r : Rn} (hL : loopL Go.Proofs.Try.prog KT R l_plaitref1_Extend_0 e H = r)
    (e1' : e 1 = some (.int .i64 n)) (e8 : e 8 = some v) (e9 : e 9 = some (.bool fill)) :
    ∃ y e' H', r = some (y, e', H') ∧ (y = .exit 0 ∧ H.size ≤ H'.size ∧ (∀ p, p ≤ B0 → p < H.size → H'.obj p = H.obj p) ∧ (∀ A, Keeps A H → A.size ≤ B0 → Keeps A H') ∧ ∃ u, e' 8 = some u ∧ RB H' u (bs ++ List.replicate n fill)) ∧ ∀ t, t ∉ defs l_plaitref1_Extend_0 → e' t = e t := by
  refine loop_rule l_plaitref1_Extend_0.eq_1 hL (fun m e1 H1 => m ≤ n ∧ e1 1 = some (.int .i64 m) ∧ H.size ≤ H1.size ∧ (∀ p, p ≤ B0 → p < H.size → H1.obj p = H.obj p) ∧ (∀ A, Keeps A H → A.size ≤ B0 → Keeps A H1) ∧ ∃ u, e1 8 = some u ∧ RB H1 u (bs ++ List.replicate (n - m) fill) ∧ grows u ∧ ∀ p, p ∈ objs u → B0 < p) _ n ⟨Nat.le_refl _, e1', Nat.le_refl _, fun _ _ _ => rfl, fun _ k _ => k, v, e8, by simpa using hv, hg, ho⟩ ?_
  rintro m f H1 hf ⟨hmn, f1, z1, ob1, kA, u, f8, hu, gu, nu⟩
  cases m with
  | zero =>
    simp [f1]
    exact ⟨z1, ob1, kA, u, f8, by simpa using hu⟩
  | succ m =>
    have w1 : IntKind.i64.wrap (m : Int) = (m : Int) := i64w (by omega) (by omega)
    have e1i : ((m : Int) + 1 - 1) = (m : Int) := by omega
    have p1 : (0 : Int) < (m : Int) + 1 := by omega
    simp (maxDischargeDepth := 40) [hf, e9, f1, f8, p1]
    generalize hA : appU _ _ _ _ = q
    have hr : RB (H1.new (.cells [.bool fill])) (.row H1.size 0 1 1 true) [fill] := RB.row (by simp) (by simp) (by simp)
    obtain ⟨H2, rfl, f2, s2, rb2⟩ := appB hA (hu.new _) gu hr (by simp) (by simp; omega)
    simp only [new_size] at s2 rb2
    have hls : (bs ++ List.replicate (n - (m + 1)) fill).length + 1 = w + (n - m) := by simp; omega
    have hls2 : bs ++ List.replicate (n - (m + 1)) fill ++ [fill] = bs ++ List.replicate (n - m) fill := by
      rw [List.append_assoc, show n - m = (n - (m + 1)) + 1 from by omega, List.replicate_succ']
    rw [hls2] at rb2
    simp (maxDischargeDepth := 40) [f1, e1i, w1]
    refine ⟨m, by omega, by omega, rfl, by omega, fun p hp hp2 => ?_, fun A k hk => ?_, ?_, by omega⟩
    · rw [f2.obj p (by simp; omega) (fun hh => by have := nu p hh; omega)]
      rw [(Keeps.new H1 _).obj p (by omega)]; exact ob1 p hp hp2
    · exact f2.keeps ((kA A k hk).new' _) (fun p hp => by have := nu p hp; omega)
    · simpa using rb2
theorem extend_same (w n : Int) (sg : Bool) (l h : BitVec 64) : ∃ (k : Int) (p q : BitVec 64) (e : Int), (∀ H, R f_bv_Extend [.agg [.int .i64 w, u l, u h], .int .i64 n, .bool sg] H = some (.tup [.agg [.int .i64 k, u p, u q], .int .i64 e], H)) ∧ ∀ H, R f_plaitref1_Extend [.agg [.int .i64 w, u l, u h], .int .i64 n, .bool sg] H = some (.tup [.agg [.int .i64 k, u p, u q], .int .i64 e], H) := by
  have r1 := fun H => bvword_run (w := w) (l := l) (h := h) (H := H)
  have r2 := fun H => refword_run (w := w) (l := l) (h := h) (H := H)
  cases h1 : isWd w l h with
  | false =>
    rw [h1] at r1 r2
    refine ⟨0, 0#64, 0#64, 10, fun H => ?_, fun H => ?_⟩
    · rw [e_bv_Extend]; simp (maxDischargeDepth := 40) [c_bv_Extend, r1]
    · rw [e_plaitref1_Extend]; simp (maxDischargeDepth := 40) [c_plaitref1_Extend, r2]
  | true =>
    rw [h1] at r1 r2
    obtain ⟨m, x, m1, m2, rfl, rfl, rfl⟩ := isWd_word h1
    by_cases c1 : n < 0
    · refine ⟨0, 0#64, 0#64, 12, fun H => ?_, fun H => ?_⟩
      · rw [e_bv_Extend]; simp (maxDischargeDepth := 40) [c_bv_Extend, r1, c1]
      · rw [e_plaitref1_Extend]; simp (maxDischargeDepth := 40) [c_plaitref1_Extend, r2, c1]
    have w1 : IntKind.i64.wrap (128 - (m : Int)) = 128 - (m : Int) := i64w (by omega) (by omega)
    by_cases c2 : 128 - (m : Int) < n
    · refine ⟨0, 0#64, 0#64, 10, fun H => ?_, fun H => ?_⟩
      · rw [e_bv_Extend]; simp (maxDischargeDepth := 40) [c_bv_Extend, r1, c1, w1, c2]
      · rw [e_plaitref1_Extend]; simp (maxDischargeDepth := 40) [c_plaitref1_Extend, r2, c1, w1, c2]
    obtain ⟨n, rfl⟩ := Int.eq_ofNat_of_zero_le (show 0 ≤ n by omega)
    have hmn : m + n ≤ 128 := by omega
    obtain ⟨z, hz⟩ : ∃ z, z = (if (sg && x.msb) = true then E x ||| ~~~maskN m else E x) := ⟨_, rfl⟩
    have hbits : ∀ i, i < m + n → (bl x ++ List.replicate n (sg && x.msb)).getD i false = z.getLsbD i := fun i hi => by
      rw [hz, List.getD_eq_getElem?_getD, List.getElem?_append]
      have h128 : i < 128 := by omega
      by_cases c : i < m
      · rw [if_pos (by simpa using c), ← List.getD_eq_getElem?_getD, bl_getD]
        split
        · rw [BitVec.getLsbD_or, BitVec.getLsbD_not, maskN_bit m i m2, E_bit m2]; simp [c]
        · rw [E_bit m2]
      · rw [if_neg (by simpa using c), bl_length, List.getElem?_replicate, if_pos (by omega)]
        split
        · rename_i hs
          rw [BitVec.getLsbD_or, BitVec.getLsbD_not, maskN_bit m i m2, hs]; simp [c, h128]
        · rename_i hs
          rw [E_bit m2, BitVec.getLsbD_of_ge x i (by omega)]; simpa using hs
    refine ⟨(m + n : Nat), lo (E (z.setWidth (m + n))), hi (E (z.setWidth (m + n))), 0, fun H => ?_, fun H => ?_⟩
    · rw [hz]; exact (extend_run m1 rfl hmn).run
    · generalize hr : R f_plaitref1_Extend _ H = r
      rw [e_plaitref1_Extend] at hr
      obtain ⟨v1, H1, hb1, kb1, sb1, rb1, gr1, nv1⟩ := bitsV_run m2 x ((H.new (.cells [.int .i64 m, u (lo (E x)), u (hi (E x))])).new (.cells [.int .i64 0, u 0#64, u 0#64]))
      have k1 : Keeps H H1 := ((Keeps.new _ _).trans (Keeps.new _ _)).trans kb1
      have o1z : H1.obj (H.size + 1) = .cells [.int .i64 0, u 0#64, u 0#64] := by rw [kb1.obj _ (by simp)]; simp
      simp only [new_size] at sb1 nv1
      have hmin := rminus_run m1 m2 rb1
      generalize hms : x.msb = ms at *
      cases sg with
      | false =>
        simp (maxDischargeDepth := 40) (maxSteps := 300000) [c_plaitref1_Extend, r2, c1, c2, w1, hb1] at hr
        generalize hL : loopL _ _ _ _ _ _ = q at hr
        obtain ⟨y, e1, H2, rfl, ⟨rfl, z2, ob2, kA, uu, e8, hu⟩, fr⟩ := rext_loop (B0 := H.size + 2) (n := n) (fill := false) rb1 gr1 (w := m) (by simp) (by omega) (by omega) (fun p hp => by have := nv1 p hp; omega) hL (by simp) (by simp) (by simp)
        have hwd := wordL hu (s := m + n) (by simp) hmn hbits
        have o2z : H2.obj (H.size + 1) = .cells [.int .i64 0, u 0#64, u 0#64] := (ob2 _ (by omega) (by omega)).trans o1z
        have k2 := kA H k1 (by omega)
        have z3 : H.size + 1 < H2.size := by omega
        have kX : ∀ X, Keeps H (H2.set (H.size + 1) X) := fun X => k2.set (by omega) X
        generalize E (z.setWidth (m + n)) = zz at *
        simp (maxDischargeDepth := 40) (maxSteps := 300000) [fr, e8, hwd, o2z, z3, kX] at hr
        rw [← hr]; simp
      | true =>
        simp (maxDischargeDepth := 40) (maxSteps := 300000) [c_plaitref1_Extend, r2, c1, c2, w1, hb1, hmin] at hr
        generalize hL : loopL _ _ _ _ _ _ = q at hr
        obtain ⟨y, e1, H2, rfl, ⟨rfl, z2, ob2, kA, uu, e8, hu⟩, fr⟩ := rext_loop (B0 := H.size + 2) (n := n) (fill := ms) rb1 gr1 (w := m) (by simp) (by omega) (by omega) (fun p hp => by have := nv1 p hp; omega) hL (by simp) (by simp) (by simp)
        have hwd := wordL hu (s := m + n) (by simp) hmn (by simpa using hbits)
        have o2z : H2.obj (H.size + 1) = .cells [.int .i64 0, u 0#64, u 0#64] := (ob2 _ (by omega) (by omega)).trans o1z
        have k2 := kA H k1 (by omega)
        have z3 : H.size + 1 < H2.size := by omega
        have kX : ∀ X, Keeps H (H2.set (H.size + 1) X) := fun X => k2.set (by omega) X
        generalize E (z.setWidth (m + n)) = zz at *
        simp (maxDischargeDepth := 40) (maxSteps := 300000) [fr, e8, hwd, o2z, z3, kX] at hr
        rw [← hr]; simp
end Go.Proofs.Ytcnhpkongbdihaa

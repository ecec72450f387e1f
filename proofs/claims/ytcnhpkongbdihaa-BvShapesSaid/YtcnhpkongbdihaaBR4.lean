/- The document's functions on bits: minus, size, mul, amount, down, turned, div. -/
import Derived.Test.YtcnhpkongbdihaaBR3
namespace Go.Proofs.Ytcnhpkongbdihaa
set_option maxRecDepth 100000
set_option maxHeartbeats 4000000

theorem rminus_run {w : Nat} (h1 : 1 ≤ w) (hw : w ≤ 128) {x : BitVec w} {v : AV} {H : AHeap} (hv : RB H v (bl x)) : R f_plaitref1_minus [v] H = some (.bool x.msb, H) := by
  rw [e_plaitref1_minus]
  have hl := hv.len
  rw [bl_length] at hl
  have w0 : IntKind.i64.wrap ((w : Int) - 1) = (w : Int) - 1 := i64w (by omega) (by omega)
  have e0 : (w : Int) - 1 = ((w - 1 : Nat) : Int) := by omega
  have a1 := hv.ix (P := Go.Proofs.Try.prog) (t := T_s_bool) (by simp) (i := w - 1) (by simp; omega)
  have a2 := hv.at (P := Go.Proofs.Try.prog) (t := T_bool) (by simp) (i := w - 1) (by simp; omega)
  rw [bl_getD, ← BitVec.msb_eq_getLsbD_last] at a2
  rw [← e0] at a1
  simp (maxDischargeDepth := 40) [c_plaitref1_minus, hl, w0, a1, a2]

/-- A slice that was there stays so. -/
theorem back_old {H : AHeap} {v : AV} {bs : List Bool} (h : RB H v bs) : back [0] H v H = (v, H) := by
  obtain ⟨g1, g2, g3, g4⟩ := h
  have k := Keeps.refl H
  cases v <;> first | (exact g4.elim) | skip
  · rw [back_cons (by simp [frz]) k.shut, cut_keeps k]; simp [frz]
  · rename_i o off sz n full
    obtain ⟨rfl, g4⟩ := g4
    rw [back_cons (by rw [frz_row, if_pos g4]; simp [closed, g4]) k.shut, cut_keeps k, frz_row, if_pos g4]
  · rename_i sz n cs
    change sz = 1 at g4
    subst g4
    unfold sliceCells at g2
    simp only [Option.some.injEq] at g2
    have hc : (closed H.size (.lst 1 n cs)) = true := by
      rw [g2]; simp only [closed]; rw [closedL_all, List.all_map, List.all_eq_true]; intro x _; rfl
    rw [back_cons (by simpa [frz] using hc) k.shut, cut_keeps k]; simp [frz]

/-- A new row of bits, or frozen ones, frozen. -/
theorem frz_rb {H H' : AHeap} {v : AV} {bs : List Bool} (h : RB H' v bs) (hn : v ≠ .nils) (ho : ∀ p, p ∈ objs v → H.size ≤ p) : frz H' H.size [0] v = BL bs := by
  obtain ⟨g1, g2, g3, g4⟩ := h
  cases v <;> first | (exact g4.elim) | skip
  · exact absurd rfl hn
  · rename_i o off sz n full
    obtain ⟨rfl, g4⟩ := g4
    simp [sliceLen] at g1
    subst g1
    have hlt : ¬ o < H.size := by have := ho o (by simp); omega
    unfold sliceCells at g2
    simp only at g2
    split at g2 <;> first | (cases g2; done) | skip
    rename_i all hob
    split at g2 <;> first | (cases g2; done) | skip
    rename_i hle
    simp only [Option.some.injEq] at g2
    rw [frz_row, if_neg hlt, hob, frzO_cells, if_pos hle, g2, frz_nil', List.map_id]; rfl
  · rename_i sz n cs
    change sz = 1 at g4
    subst g4
    simp [sliceLen] at g1
    subst g1
    unfold sliceCells at g2
    simp only [Option.some.injEq] at g2
    subst g2
    have : (AV.lst 1 bs.length (bs.map .bool)) = BL bs := rfl
    rw [this]; simp
theorem back_rb {H H' : AHeap} {v : AV} {bs : List Bool} (k : Keeps H H') (h : RB H' v bs) (hn : v ≠ .nils) (ho : ∀ p, p ∈ objs v → H.size ≤ p) : back [0] H v H' = (BL bs, H) := by
  have hf := frz_rb h hn ho
  rw [back_cons (by rw [hf]; simp) k.shut, cut_keeps k, hf]
theorem back_rb2 {H H' : AHeap} {v w : AV} {bs cs : List Bool} (k : Keeps H H') (h : RB H' v bs) (hn : v ≠ .nils) (ho : ∀ p, p ∈ objs v → H.size ≤ p) (h' : RB H' w cs) (hn' : w ≠ .nils) (ho' : ∀ p, p ∈ objs w → H.size ≤ p) : back [0, 0] H (.tup [v, w]) H' = (.tup [BL bs, BL cs], H) := by
  have hf := frz_rb h hn ho
  have hf' := frz_rb h' hn' ho'
  have he : frz H' H.size [0, 0] (.tup [v, w]) = .tup [BL bs, BL cs] := by rw [frz_tup]; simp only [List.map_cons, List.map_nil, hf, hf']
  rw [back_cons (by rw [he]; simp [closed, closedL]) k.shut, cut_keeps k, he]

theorem rsize_run {w : Nat} (h1 : 1 ≤ w) (hw : w ≤ 128) {x : BitVec w} {v : AV} {H : AHeap} (hv : RB H v (bl x)) : ∃ u, R f_plaitref1_size [v] H = some (u, H) ∧ RB H u (bl x.abs) := by
  rw [e_plaitref1_size]
  have h2 := rminus_run h1 hw hv
  have h3 := rneg_run hw hv
  unfold BitVec.abs
  cases hm : x.msb with
  | true =>
    rw [hm] at h2
    refine ⟨BL (bl (-x)), ?_, RB.lst⟩
    simp (maxDischargeDepth := 40) [c_plaitref1_size, h2, h3]
  | false =>
    rw [hm] at h2
    refine ⟨v, ?_, by simpa using hv⟩
    simp (maxDischargeDepth := 40) [c_plaitref1_size, h2, back_old hv]

theorem rmul_run {w : Nat} (h1 : 1 ≤ w) (hw : w ≤ 128) {x y : BitVec w} {v v' : AV} {H : AHeap} (hv : RB H v (bl x)) (hv' : RB H v' (bl y)) : R f_plaitref1_mul [v, v'] H = some (BL (bl (x * y)), H) := by
  generalize h : R f_plaitref1_mul _ H = r
  rw [e_plaitref1_mul] at h
  have hl := hv.len
  have hl' := hv'.len
  rw [bl_length] at hl hl'
  have c1 : (w : Int) ≤ 140737488355328 := by omega
  have c2 : (w : Int) ≤ 9223372036854775807 := by omega
  simp (maxDischargeDepth := 40) [c_plaitref1_mul, hl, c1, c2] at h
  generalize hL : loopL _ _ _ _ _ _ = q at h
  have hloop := loop_count l_plaitref1_mul_0.eq_1 hL w (fun i e1 H1 => e1 6 = some (.int .i64 i) ∧ Keeps H H1 ∧ ∃ u, e1 5 = some u ∧ RB H1 u (bl (mulA x y i)) ∧ u ≠ .nils ∧ ∀ p, p ∈ objs u → H.size ≤ p) (fun z e' H' => z = .exit 0 ∧ Keeps H H' ∧ ∃ u, e' 5 = some u ∧ RB H' u (bl (x * y)) ∧ u ≠ .nils ∧ ∀ p, p ∈ objs u → H.size ≤ p) 0 (Nat.zero_le _)
    ⟨by simp, Keeps.new _ _, .row H.size 0 1 w true, by simp, by rw [mulA_zero]; exact RB.row (by simp) (by simp [zero_bl]) (by simp), by simp, by simp⟩ ?_ ?_
  · obtain ⟨z, e1, H1, rfl, ⟨rfl, k1, u, e5, hu, hn, ho⟩, fr⟩ := hloop
    simp (maxDischargeDepth := 40) [e5] at h
    rw [back_rb k1 hu hn ho] at h
    exact h.symm
  · rintro i f H1 hf - hi ⟨f6, k1, u, f5, hu, hn, ho⟩
    have w1 := i64w (n := (i : Int) + 1) (by omega) (by omega)
    have b1 := (hv'.keep k1).ix (P := Go.Proofs.Try.prog) (t := T_s_bool) (by simp) (i := i) (by simpa using hi)
    have b2 := (hv'.keep k1).at (P := Go.Proofs.Try.prog) (t := T_bool) (by simp) (i := i) (by simpa using hi)
    rw [bl_getD] at b2
    have hs := mulA_succ x y i
    have ci : (i : Int) < w := by omega
    cases hb : y.getLsbD i with
    | false =>
      rw [hb] at b2 hs
      simp only [Bool.false_eq_true, if_false] at hs
      simp (maxDischargeDepth := 40) [hf, f5, f6, hl', ci, b1, b2, w1, hs]
      exact ⟨k1, hu, hn, ho⟩
    | true =>
      rw [hb] at b2 hs
      simp only [if_true] at hs
      simp (maxDischargeDepth := 40) [hf, f5, f6, hl', ci, b1, b2]
      generalize hU : R f_plaitref1_up _ _ = q1
      obtain ⟨H2, rfl, k2, s2, ob2⟩ := rup_run hw (n := i) (by omega) (hv.keep k1) hU
      have ha := radd_run hw (x := mulA x y i) (y := x <<< i) (c := false) (hu.keep k2) (RB.row (o := H1.size) (n := w) (full := true) (bs := bl (x <<< i)) (by omega) ob2 (by simp))
      rw [add_cw, ← hs] at ha
      simp (maxDischargeDepth := 40) [f6, ha, w1]
      exact ⟨k1.trans k2, RB.lst, by simp [BL], by simp [BL]⟩
  · rintro f H1 hf ⟨f6, k1, u, f5, hu, hn, ho⟩
    rw [mulA_all] at hu
    simp [hf, f5, f6, hl', k1]
    exact ⟨hu, hn, ho⟩

theorem ramount_run {w : Nat} (hw : w ≤ 128) {x : BitVec w} {v : AV} {H : AHeap} (hv : RB H v (bl x)) : R f_plaitref1_amount [v] H = some (.int .i64 (min x.toNat w : Nat), H) := by
  generalize h : R f_plaitref1_amount _ H = r
  obtain ⟨A, hA⟩ : ∃ A : Nat → Nat, ∀ m, A m = min (x.toNat / 2 ^ m) w := ⟨_, fun _ => rfl⟩
  rw [show min x.toNat w = A 0 from by rw [hA]; simp]
  have hAw : A w = 0 := by rw [hA, top_zero]; simp
  rw [e_plaitref1_amount] at h
  have hl := hv.len
  rw [bl_length] at hl
  have w0 : IntKind.i64.wrap ((w : Int) - 1) = (w : Int) - 1 := i64w (by omega) (by omega)
  simp (maxDischargeDepth := 40) [c_plaitref1_amount, hl, w0] at h
  generalize hL : loopL _ _ _ _ _ _ = q at h
  have hloop := loop_rule l_plaitref1_amount_0.eq_1 hL (fun m e1 H1 => m ≤ w ∧ e1 4 = some (.int .i64 ((m : Int) - 1)) ∧ e1 3 = some (.int .i64 (A m : Nat)) ∧ H1 = H) (fun z e' H' => z = .exit 0 ∧ H' = H ∧ e' 3 = some (.int .i64 (A 0 : Nat))) w ⟨Nat.le_refl _, by simp, by simp [hAw], rfl⟩ ?_
  · obtain ⟨z, e1, H1, rfl, ⟨rfl, rfl, e3⟩, fr⟩ := hloop
    simp (maxDischargeDepth := 40) [e3] at h
    exact h.symm
  · rintro m f H1 hf ⟨hm, f4, f3, rfl⟩
    cases m with
    | zero =>
      simp [f4]
      simpa using f3
    | succ m =>
      have hm' : m < w := hm
      have a1 := hv.ix (P := Go.Proofs.Try.prog) (t := T_s_bool) (by simp) (i := m) (by simpa using hm')
      have a2 := hv.at (P := Go.Proofs.Try.prog) (t := T_bool) (by simp) (i := m) (by simpa using hm')
      rw [bl_getD] at a2
      have w1 : IntKind.i64.wrap ((m : Int) - 1) = (m : Int) - 1 := i64w (by omega) (by omega)
      have e1i : ((m : Int) + 1 - 1) = (m : Int) := by omega
      have hh := half2 x.toNat m
      rw [toNat_bit] at hh
      have hs := amt_step (x.toNat / 2 ^ (m + 1)) w (x.getLsbD m).toNat (by cases x.getLsbD m <;> simp)
      rw [← hh, ← hA, ← hA] at hs
      have hn0w : A (m + 1) ≤ w := by rw [hA]; omega
      generalize A (m + 1) = n0 at *
      have w2 : IntKind.i64.wrap (2 * (n0 : Int)) = 2 * (n0 : Int) := i64w (by omega) (by omega)
      have w3 : IntKind.i64.wrap (2 * (n0 : Int) + 1) = 2 * (n0 : Int) + 1 := i64w (by omega) (by omega)
      clear hh hA
      cases hb : x.getLsbD m with
      | true =>
        rw [hb] at a2 hs
        by_cases c : (w : Int) < 2 * (n0 : Int) + 1
        · have c' : ¬ 2 * (n0 : Int) + 1 ≤ w := by omega
          simp (maxDischargeDepth := 40) [hf, f3, f4, hl, e1i, a1, a2, w1, w2, w3, c]
          exact ⟨m, by omega, by omega, rfl, by simp at hs; omega⟩
        · simp (maxDischargeDepth := 40) [hf, f3, f4, hl, e1i, a1, a2, w1, w2, w3, c]
          exact ⟨m, by omega, by omega, rfl, by simp at hs; omega⟩
      | false =>
        rw [hb] at a2 hs
        by_cases c : (w : Int) < 2 * (n0 : Int)
        · simp (maxDischargeDepth := 40) [hf, f3, f4, hl, e1i, a1, a2, w1, w2, c]
          exact ⟨m, by omega, by omega, rfl, by simp at hs; omega⟩
        · simp (maxDischargeDepth := 40) [hf, f3, f4, hl, e1i, a1, a2, w1, w2, c]
          exact ⟨m, by omega, by omega, rfl, by simp at hs; omega⟩

/-- Bits moved down. -/
def dnL {w : Nat} (x : BitVec w) (n : Nat) (fill : Bool) : List Bool := (List.range w).map fun i => if i + n < w then x.getLsbD (i + n) else fill
theorem dnL_len {w : Nat} (x : BitVec w) (n : Nat) (fill : Bool) : (dnL x n fill).length = w := by simp [dnL]
theorem dnL_lshr {w : Nat} (x : BitVec w) (n : Nat) : dnL x n false = bl (x >>> n) := by
  unfold dnL bl
  apply List.map_congr_left
  intro i _
  rw [BitVec.getLsbD_ushiftRight, Nat.add_comm n i]
  split
  · rfl
  · rw [BitVec.getLsbD_of_ge x _ (by omega)]
theorem dnL_ashr {w : Nat} (x : BitVec w) (n : Nat) : dnL x n x.msb = bl (x.sshiftRight n) := by
  unfold dnL bl
  apply List.map_congr_left
  intro i hi
  simp only [List.mem_range] at hi
  rw [BitVec.getLsbD_sshiftRight, Nat.add_comm n i]
  have : ¬ w ≤ i := by omega
  simp [this]
theorem rdown_run {w : Nat} (hw : w ≤ 128) {x : BitVec w} {n : Nat} (hn : n ≤ 1000) {fill : Bool} {v : AV} {H : AHeap} (hv : RB H v (bl x)) : R f_plaitref1_down [v, .int .i64 n, .bool fill] H = some (BL (dnL x n fill), H) := by
  generalize h : R f_plaitref1_down _ H = r
  rw [e_plaitref1_down] at h
  have hl := hv.len
  rw [bl_length] at hl
  have c1 : (w : Int) ≤ 140737488355328 := by omega
  have c2 : (w : Int) ≤ 9223372036854775807 := by omega
  simp (maxDischargeDepth := 40) [c_plaitref1_down, hl, c1, c2] at h
  generalize hL : loopL _ _ _ _ _ _ = q at h
  have k0 : Keeps H (H.new (.cells (List.replicate w (.bool false)))) := Keeps.new _ _
  obtain ⟨F, F0, Fs, Fl, Fw⟩ := fills (fun i => .bool (if i + n < w then x.getLsbD (i + n) else fill)) (.bool false) w
  have hFw : F w = (dnL x n fill).map .bool := by rw [Fw, dnL, List.map_map]; rfl
  have hloop := loop_count l_plaitref1_down_0.eq_1 hL w (fun i e1 H1 => e1 8 = some (.int .i64 i) ∧ Upd H.size (H.new (.cells (List.replicate w (.bool false)))) H1 ∧ H1.obj H.size = .cells (F i)) (fun y e' H' => y = .exit 0 ∧ Upd H.size (H.new (.cells (List.replicate w (.bool false)))) H' ∧ H'.obj H.size = .cells (F w)) 0 (Nat.zero_le _) ⟨by simp, Upd.refl _ _, by simp [F0]⟩ ?_ ?_
  · obtain ⟨y, e1, H1, rfl, ⟨rfl, k1, hob⟩, fr⟩ := hloop
    rw [hFw] at hob
    simp (maxDischargeDepth := 40) [fr] at h
    rw [back_bits (k1.keeps k0 (Nat.le_refl _)) (Nat.le_refl _) hob (dnL_len _ _ _)] at h
    exact h.symm
  · rintro i f H1 hf - hi ⟨f8, k, hob⟩
    have w1 := i64w (n := (i : Int) + 1) (by omega) (by omega)
    have w2 := i64w (n := (i : Int) + n) (by omega) (by omega)
    have k1 := k.keeps k0 (Nat.le_refl _)
    have hs := Fs i hi
    have hFl := Fl i (Nat.le_of_lt hi)
    have ci : (i : Int) < w := by omega
    have lo : H.size < H1.size := by rw [k.size]; simp
    by_cases c : i + n < w
    · rw [if_pos c] at hs
      have c' : (i : Int) + n < w := by omega
      have e2 : (i : Int) + n = ((i + n : Nat) : Int) := by omega
      have a1 := (hv.keep k1).ix (P := Go.Proofs.Try.prog) (t := T_s_bool) (by simp) (i := i + n) (by simpa using c)
      have a2 := fun X => (hv.keep (k1.set (Nat.le_refl _) X)).at (P := Go.Proofs.Try.prog) (t := T_bool) (by simp) (i := i + n) (by simpa using c)
      simp only [bl_getD] at a2
      rw [← e2] at a1
      simp (maxDischargeDepth := 40) [hf, f8, hl, hi, ci, w2, c', a1, a2, hob, hFl, hs, w1]
      exact (k.set _).set _
    · rw [if_neg c] at hs
      have c' : ¬ (i : Int) + n < w := by omega
      simp (maxDischargeDepth := 40) [hf, f8, hl, hi, ci, w2, c', hob, hFl, hs, w1]
      exact k.set _
  · rintro f H1 hf ⟨f8, k, hob⟩
    simp [hf, f8, hl]
    exact ⟨k, hob⟩

theorem allOne_bits : ∀ (bs : List Bool), allOne (bs.map AV.bool) = true
  | [] => rfl
  | _ :: bs => by simp only [List.map_cons, allOne, allOne_bits bs, Bool.and_true]; rfl
theorem rturned_run {w : Nat} (h1 : 1 ≤ w) (hw : w ≤ 128) {x : BitVec w} {v : AV} {H : AHeap} (hv : RB H v (bl x)) : R f_plaitref1_turned [v] H = some (BL (bl (x ^^^ BitVec.twoPow w (w - 1))), H) := by
  generalize h : R f_plaitref1_turned _ H = r
  rw [e_plaitref1_turned] at h
  simp (maxDischargeDepth := 40) [c_plaitref1_turned] at h
  generalize hA : appU _ _ _ _ = q at h
  obtain ⟨H1, rfl, f1, s1, oo, -⟩ := app_of hA (Reads.nils (sz := 1)) grows_nils (show Reads H v 1 w ((bl x).map .bool) from by have := hv; unfold RB at this; rwa [bl_length] at this) (by omega) rfl (by omega) (by omega) (by omega) (allOne_bits _)
  simp only [List.nil_append] at oo
  have w0 : IntKind.i64.wrap ((w : Int) - 1) = (w : Int) - 1 := i64w (by omega) (by omega)
  have e0 : (w : Int) - 1 = ((w - 1 : Nat) : Int) := by omega
  have hv1 : RB H1 (.row H.size 0 1 w false) (bl x) := RB.row (by omega) oo (by simp)
  have a1 := hv1.ix (P := Go.Proofs.Try.prog) (t := T_s_bool) (by simp) (i := w - 1) (by simp; omega)
  have a2 := hv1.at (P := Go.Proofs.Try.prog) (t := T_bool) (by simp) (i := w - 1) (by simp; omega)
  rw [bl_getD] at a2
  rw [← e0] at a1
  have k1 : Keeps H H1 := f1.keeps (Keeps.refl _) (by simp)
  have hs : ((bl x).map AV.bool).set (w - 1) (.bool (!x.getLsbD (w - 1))) = (bl (x ^^^ BitVec.twoPow w (w - 1))).map .bool := by
    apply List.ext_getElem (by simp)
    intro i h2 h3
    have hi : i < w := by simpa using h3
    rw [List.getElem_set]
    simp only [List.getElem_map, bl, List.getElem_range, BitVec.getLsbD_xor, BitVec.getLsbD_twoPow]
    by_cases e : w - 1 = i
    · subst e; simp [hi]
    · simp [e, hi]
  simp only [Nat.zero_add] at h
  have hg : (bl x)[w - 1]'(by simp; omega) = x.getLsbD (w - 1) := by simp [bl]
  generalize x.getLsbD (w - 1) = p at *
  have hlt : w - 1 < w := by omega
  have lo1 : H.size < H1.size := by omega
  simp (maxDischargeDepth := 40) [w0, a1, oo, hs, hlt, ixp, hg] at h
  rw [back_bits (bs := bl (x ^^^ BitVec.twoPow w (w - 1))) (k1.set (Nat.le_refl _) _) (Nat.le_refl _) (by simp) (by simp)] at h
  exact h.symm
end Go.Proofs.Ytcnhpkongbdihaa

/- The document's functions on bits: not, add, neg, sub, below, up, mul, zero. -/
import Derived.Test.YtcnhpkongbdihaaBRR
import Derived.Test.YtcnhpkongbdihaaBRP
namespace Go.Proofs.Ytcnhpkongbdihaa
set_option maxRecDepth 100000
set_option maxHeartbeats 4000000

section
variable {P : Program} {K : TypeId → Option (List Sc)} {C : Calling}
@[simp] theorem mark_make {q : List Nat} {t : TypeId} {a b : Operand} {e : Env} {H H' : AHeap} {v : AV} : markOK q (.makeSlice t a b) e H v H' = decide (H.Quiet H') := nr rfl
end
/-- A new row of bits, frozen. -/
theorem back_bits {H H' : AHeap} {o w : Nat} {full : Bool} {bs : List Bool} (k : Keeps H H') (ho : H.size ≤ o) (h : H'.obj o = .cells (bs.map .bool)) (hl : bs.length = w) : back [0] H (.row o 0 1 w full) H' = (BL bs, H) := by
  subst hl
  have hn : ¬ o < H.size := by omega
  have hf : frz H' H.size [0] (.row o 0 1 bs.length full) = BL bs := by
    rw [frz_row, if_neg hn, h, frzO_cells, if_pos (by simp)]
    simp [BL, frz_nil', List.take_of_length_le]
  rw [back_cons (by rw [hf]; simp) k.shut, cut_keeps k, hf]
theorem bl_map_len {w : Nat} (x : BitVec w) : ((bl x).map AV.bool).length = w := by simp
theorem back_openB {H H' : AHeap} {v : AV} (hc : closed H.size v = false) : back [] H v H' = (v, H') := by
  unfold back
  rw [if_neg]
  rintro ⟨h, -⟩
  have : frz H' H.size [] v = v := by cases v <;> rfl
  rw [this, hc] at h
  cases h
/-- Filling a row with a word's bits. -/
theorem fillsB {w : Nat} (x : BitVec w) : ∃ F : Nat → List AV, F 0 = List.replicate w (.bool false) ∧ (∀ i, i < w → (F i).set i (.bool (x.getLsbD i)) = F (i + 1)) ∧ (∀ i, i ≤ w → (F i).length = w) ∧ F w = (bl x).map .bool := by
  obtain ⟨F, F0, Fs, Fl, Fw⟩ := fills (fun i => .bool (x.getLsbD i)) (.bool false) w
  exact ⟨F, F0, Fs, Fl, by rw [Fw, bl, List.map_map]; rfl⟩
theorem zero_bl (w : Nat) : List.replicate w (AV.bool false) = (bl (0#w)).map .bool := by
  apply List.ext_getElem (by simp)
  intro i h1 h2
  simp [bl]

theorem rnot_run {w : Nat} (hw : w ≤ 128) {x : BitVec w} {v : AV} {H : AHeap} (hv : RB H v (bl x)) : R f_plaitref1_not [v] H = some (BL (bl (~~~x)), H) := by
  generalize h : R f_plaitref1_not [v] H = r
  rw [e_plaitref1_not] at h
  have hl := hv.len
  rw [bl_length] at hl
  have c1 : (w : Int) ≤ 140737488355328 := by omega
  have c2 : (w : Int) ≤ 9223372036854775807 := by omega
  simp (maxDischargeDepth := 40) [c_plaitref1_not, hl, c1, c2] at h
  generalize hL : loopL _ _ _ _ _ _ = q at h
  have k0 : Keeps H (H.new (.cells (List.replicate w (.bool false)))) := Keeps.new _ _
  obtain ⟨F, F0, Fs, Fl, Fw⟩ := fillsB (~~~x)
  have hloop := loop_count l_plaitref1_not_0.eq_1 hL w (fun i e1 H1 => e1 4 = some (.int .i64 i) ∧ Upd H.size (H.new (.cells (List.replicate w (.bool false)))) H1 ∧ H1.obj H.size = .cells (F i)) (fun y e' H' => y = .exit 0 ∧ Upd H.size (H.new (.cells (List.replicate w (.bool false)))) H' ∧ H'.obj H.size = .cells (F w)) 0 (Nat.zero_le _) ⟨by simp, Upd.refl _ _, by simp [F0]⟩ ?_ ?_
  · obtain ⟨y, e1, H1, rfl, ⟨rfl, k1, hob⟩, fr⟩ := hloop
    rw [Fw] at hob
    simp (maxDischargeDepth := 40) [fr] at h
    rw [back_bits (k1.keeps k0 (Nat.le_refl _)) (Nat.le_refl _) hob (by simp)] at h
    exact h.symm
  · rintro i f H1 hf - hi ⟨f4, k, hob⟩
    have w1 := i64w (n := (i : Int) + 1) (by omega) (by omega)
    have hv1 := hv.keep (k.keeps k0 (Nat.le_refl _))
    have a1 := hv1.ix (P := Go.Proofs.Try.prog) (t := T_s_bool) (by simp) (i := i) (by simpa using hi)
    have a2 := hv1.at (P := Go.Proofs.Try.prog) (t := T_bool) (by simp) (i := i) (by simpa using hi)
    rw [bl_getD] at a2
    have hs := Fs i hi
    have hFl := Fl i (Nat.le_of_lt hi)
    rw [BitVec.getLsbD_not] at hs
    have ci : (i : Int) < w := by omega
    have lo : H.size < H1.size := by rw [k.size]; simp
    simp only [hi, decide_true, Bool.true_and] at hs
    generalize x.getLsbD i = p at *
    simp (maxDischargeDepth := 40) [hf, f4, hl, hi, ci, a1, a2, hob, hFl, hs, w1]
    exact k.set _
  · rintro f H1 hf ⟨f4, k, hob⟩
    simp [hf, f4, hl]
    exact ⟨k, hob⟩

theorem radd_run {w : Nat} (hw : w ≤ 128) {x y : BitVec w} {c : Bool} {v v' : AV} {H : AHeap} (hv : RB H v (bl x)) (hv' : RB H v' (bl y)) : R f_plaitref1_add [v, v', .bool c] H = some (BL (bl (x + y + cw w c)), H) := by
  generalize h : R f_plaitref1_add _ H = r
  rw [e_plaitref1_add] at h
  have hl := hv.len
  rw [bl_length] at hl
  have c1 : (w : Int) ≤ 140737488355328 := by omega
  have c2 : (w : Int) ≤ 9223372036854775807 := by omega
  simp (maxDischargeDepth := 40) [c_plaitref1_add, hl, c1, c2] at h
  generalize hL : loopL _ _ _ _ _ _ = q at h
  have k0 : Keeps H (H.new (.cells (List.replicate w (.bool false)))) := Keeps.new _ _
  obtain ⟨F, F0, Fs, Fl, Fw⟩ := fillsB (x + y + cw w c)
  have hloop := loop_count l_plaitref1_add_0.eq_1 hL w (fun i e1 H1 => e1 8 = some (.int .i64 i) ∧ e1 2 = some (.bool (BitVec.carry i x y c)) ∧ Upd H.size (H.new (.cells (List.replicate w (.bool false)))) H1 ∧ H1.obj H.size = .cells (F i)) (fun y e' H' => y = .exit 0 ∧ Upd H.size (H.new (.cells (List.replicate w (.bool false)))) H' ∧ H'.obj H.size = .cells (F w)) 0 (Nat.zero_le _) ⟨by simp, by simp, Upd.refl _ _, by simp [F0]⟩ ?_ ?_
  · obtain ⟨y, e1, H1, rfl, ⟨rfl, k1, hob⟩, fr⟩ := hloop
    rw [Fw] at hob
    simp (maxDischargeDepth := 40) [fr] at h
    rw [back_bits (k1.keeps k0 (Nat.le_refl _)) (Nat.le_refl _) hob (by simp)] at h
    exact h.symm
  · rintro i f H1 hf - hi ⟨f8, f2, k, hob⟩
    have w1 := i64w (n := (i : Int) + 1) (by omega) (by omega)
    have k1 := k.keeps k0 (Nat.le_refl _)
    have lo : H.size < H1.size := by rw [k.size]; simp
    have a1 := (hv.keep k1).ix (P := Go.Proofs.Try.prog) (t := T_s_bool) (by simp) (i := i) (by simpa using hi)
    have a2 := fun X => (hv.keep (k1.set (Nat.le_refl _) X)).at (P := Go.Proofs.Try.prog) (t := T_bool) (by simp) (i := i) (by simpa using hi)
    have a2' := (hv.keep k1).at (P := Go.Proofs.Try.prog) (t := T_bool) (by simp) (i := i) (by simpa using hi)
    have b1 := (hv'.keep k1).ix (P := Go.Proofs.Try.prog) (t := T_s_bool) (by simp) (i := i) (by simpa using hi)
    have b2 := fun X => (hv'.keep (k1.set (Nat.le_refl _) X)).at (P := Go.Proofs.Try.prog) (t := T_bool) (by simp) (i := i) (by simpa using hi)
    have b2' := (hv'.keep k1).at (P := Go.Proofs.Try.prog) (t := T_bool) (by simp) (i := i) (by simpa using hi)
    simp only [bl_getD] at a2 b2 a2' b2'
    have hs := Fs i hi
    have hFl := Fl i (Nat.le_of_lt hi)
    rw [add_bit hi] at hs
    have hc := add_carry i x y c
    have ci : (i : Int) < w := by omega
    generalize x.getLsbD i = p at *
    generalize y.getLsbD i = q at *
    generalize BitVec.carry i x y c = s at *
    rw [hc]
    cases p <;> cases q <;> cases s <;> simp only [Bool.xor_false, Bool.xor_true, Bool.not_false, Bool.not_true] at hs <;> simp (maxDischargeDepth := 40) [hf, f2, f8, hl, hi, ci, a1, a2, a2', b1, b2, b2', hob, hFl, hs, w1] <;> exact k.set _
  · rintro f H1 hf ⟨f8, f2, k, hob⟩
    simp [hf, f8, hl]
    exact ⟨k, hob⟩

theorem rneg_run {w : Nat} (hw : w ≤ 128) {x : BitVec w} {v : AV} {H : AHeap} (hv : RB H v (bl x)) : R f_plaitref1_neg [v] H = some (BL (bl (-x)), H) := by
  rw [e_plaitref1_neg]
  have hl := hv.len
  rw [bl_length] at hl
  have c1 : (w : Int) ≤ 140737488355328 := by omega
  have c2 : (w : Int) ≤ 9223372036854775807 := by omega
  have h1 := rnot_run hw hv
  have h2 := radd_run hw (x := ~~~x) (y := 0#w) (c := true) (H := H.new (.cells (List.replicate w (.bool false)))) RB.lst (RB.row (o := H.size) (n := w) (full := true) (by simp) (by simp [zero_bl]) (by simp))
  rw [neg_cw] at h2
  simp (maxDischargeDepth := 40) [c_plaitref1_neg, hl, c1, c2, h1, h2]
theorem rsub_run {w : Nat} (hw : w ≤ 128) {x y : BitVec w} {v v' : AV} {H : AHeap} (hv : RB H v (bl x)) (hv' : RB H v' (bl y)) : R f_plaitref1_sub [v, v'] H = some (BL (bl (x - y)), H) := by
  rw [e_plaitref1_sub]
  have h1 := rnot_run hw hv'
  have h2 := radd_run hw (x := x) (y := ~~~y) (c := true) hv RB.lst
  rw [sub_cw] at h2
  simp (maxDischargeDepth := 40) [c_plaitref1_sub, h1, h2]

theorem rbelow_run {w : Nat} (hw : w ≤ 128) {x y : BitVec w} {v v' : AV} {H : AHeap} (hv : RB H v (bl x)) (hv' : RB H v' (bl y)) : R f_plaitref1_below [v, v'] H = some (.bool (decide (x < y)), H) := by
  generalize h : R f_plaitref1_below _ H = r
  rw [e_plaitref1_below] at h
  have hl := hv.len
  rw [bl_length] at hl
  have w0 : IntKind.i64.wrap ((w : Int) - 1) = (w : Int) - 1 := i64w (by omega) (by omega)
  simp (maxDischargeDepth := 40) [c_plaitref1_below, hl, w0] at h
  generalize hL : loopL _ _ _ _ _ _ = q at h
  have hloop := loop_rule l_plaitref1_below_0.eq_1 hL (fun m e1 H1 => m ≤ w ∧ e1 5 = some (.int .i64 ((m : Int) - 1)) ∧ H1 = H ∧ x.toNat / 2 ^ m = y.toNat / 2 ^ m) (fun z e' H' => H' = H ∧ ((z = .exit 0 ∧ x = y) ∨ (z = .ret ∧ e' 4 = some (.bool (decide (x < y)))))) w ⟨Nat.le_refl _, by simp, rfl, by rw [top_zero, top_zero]⟩ ?_
  · obtain ⟨z, e1, H1, rfl, ⟨rfl, hz⟩, fr⟩ := hloop
    rcases hz with ⟨rfl, hz⟩ | ⟨rfl, hz⟩
    · have : ¬ x < y := by rw [hz, BitVec.lt_def]; omega
      simp (maxDischargeDepth := 40) at h
      rw [← h, decide_eq_false this]
    · simp (maxDischargeDepth := 40) [hz] at h
      exact h.symm
  · rintro m f H1 hf ⟨hm, f5, rfl, hq⟩
    cases m with
    | zero =>
      simp [f5]
      simp only [Nat.pow_zero, Nat.div_one] at hq
      exact BitVec.eq_of_toNat_eq hq
    | succ m =>
      have hm' : m < w := hm
      have a1 := hv.ix (P := Go.Proofs.Try.prog) (t := T_s_bool) (by simp) (i := m) (by simpa using hm')
      have a2 := hv.at (P := Go.Proofs.Try.prog) (t := T_bool) (by simp) (i := m) (by simpa using hm')
      have b1 := hv'.ix (P := Go.Proofs.Try.prog) (t := T_s_bool) (by simp) (i := m) (by simpa using hm')
      have b2 := hv'.at (P := Go.Proofs.Try.prog) (t := T_bool) (by simp) (i := m) (by simpa using hm')
      rw [bl_getD] at a2 b2
      have w1 : IntKind.i64.wrap ((m : Int) - 1) = (m : Int) - 1 := i64w (by omega) (by omega)
      have e1i : ((m : Int) + 1 - 1) = (m : Int) := by omega
      by_cases hb : x.getLsbD m = y.getLsbD m
      · have hq2 := eqB_step hq hb
        rw [hb] at a2
        simp (maxDischargeDepth := 40) [hf, f5, e1i, a1, a2, b1, b2, w1]
        exact ⟨m, by omega, by omega, rfl, hq2⟩
      · have hd := ltB_step hq hb
        have hb' : (!decide (x.getLsbD m = y.getLsbD m)) = true := by simp [hb]
        generalize decide (x < y) = D at *
        generalize x.getLsbD m = p at *
        generalize y.getLsbD m = q at *
        subst hd
        cases p <;> cases D <;> first | (exact absurd rfl hb) | simp (maxDischargeDepth := 40) [hf, f5, e1i, a1, a2, b1, b2]

/-- A word's bits moved up, in a new row. -/
theorem rup_run {w : Nat} (hw : w ≤ 128) {x : BitVec w} {n : Nat} (hn : n ≤ 1000) {v : AV} {H : AHeap} (hv : RB H v (bl x)) {r : Option (AV × AHeap)} (h : R f_plaitref1_up [v, .int .i64 n] H = r) : ∃ H', r = some (.row H.size 0 1 w true, H') ∧ Keeps H H' ∧ H'.size = H.size + 1 ∧ H'.obj H.size = .cells ((bl (x <<< n)).map .bool) := by
  rw [e_plaitref1_up] at h
  have hl := hv.len
  rw [bl_length] at hl
  have c1 : (w : Int) ≤ 140737488355328 := by omega
  have c2 : (w : Int) ≤ 9223372036854775807 := by omega
  simp (maxDischargeDepth := 40) [c_plaitref1_up, hl, c1, c2] at h
  generalize hL : loopL _ _ _ _ _ _ = q at h
  have k0 : Keeps H (H.new (.cells (List.replicate w (.bool false)))) := Keeps.new _ _
  obtain ⟨F, F0, Fs, Fl, Fw⟩ := fillsB (x <<< n)
  have Fn : ∀ i, i ≤ n → i ≤ w → F i = List.replicate w (.bool false) := fun i => by
    induction i with
    | zero => intro _ _; exact F0
    | succ i ih =>
      intro h1 h2
      rw [← Fs i (by omega), ih (by omega) (by omega)]
      have : (x <<< n).getLsbD i = false := by
        rw [BitVec.getLsbD_shiftLeft]
        have : i < n := by omega
        simp [this]
      rw [this]
      apply List.ext_getElem (by simp)
      intro j h3 h4
      rw [List.getElem_set]; split <;> simp
  have hloop := loop_rule l_plaitref1_up_0.eq_1 hL (fun m e1 H1 => ∃ i : Nat, m = w - i ∧ n ≤ i ∧ e1 6 = some (.int .i64 i) ∧ Upd H.size (H.new (.cells (List.replicate w (.bool false)))) H1 ∧ H1.obj H.size = .cells (F (min i w))) (fun y e' H' => y = .exit 0 ∧ Upd H.size (H.new (.cells (List.replicate w (.bool false)))) H' ∧ H'.obj H.size = .cells (F w)) (w - n) ⟨n, rfl, Nat.le_refl _, by simp, Upd.refl _ _, by simp [Fn (min n w) (by omega) (by omega)]⟩ ?_
  · obtain ⟨y, e1, H1, rfl, ⟨rfl, k1, hob⟩, fr⟩ := hloop
    rw [Fw] at hob
    simp (maxDischargeDepth := 40) [fr] at h
    rw [back_openB (by simp [closed])] at h
    exact ⟨H1, h.symm, k1.keeps k0 (Nat.le_refl _), by rw [k1.size]; simp, hob⟩
  · rintro m f H1 hf ⟨i, rfl, hni, f6, k, hob⟩
    by_cases hi : i < w
    · have w1 := i64w (n := (i : Int) + 1) (by omega) (by omega)
      have w2 := i64w (n := (i : Int) - n) (by omega) (by omega)
      have e2 : (i : Int) - n = ((i - n : Nat) : Int) := by omega
      have hv1 := hv.keep (k.keeps k0 (Nat.le_refl _))
      have a1 := hv1.ix (P := Go.Proofs.Try.prog) (t := T_s_bool) (by simp) (i := i - n) (by simp; omega)
      have a2 := hv1.at (P := Go.Proofs.Try.prog) (t := T_bool) (by simp) (i := i - n) (by simp; omega)
      rw [bl_getD] at a2
      rw [Nat.min_eq_left (Nat.le_of_lt hi)] at hob
      have hs := Fs i hi
      have hFl := Fl i (Nat.le_of_lt hi)
      have hbit : (x <<< n).getLsbD i = x.getLsbD (i - n) := by
        rw [BitVec.getLsbD_shiftLeft]
        have : ¬ i < n := by omega
        simp only [hi, this, decide_true, decide_false, Bool.not_false, Bool.true_and]
      rw [hbit] at hs
      generalize x.getLsbD (i - n) = p at *
      have ci : (i : Int) < w := by omega
      have lo : H.size < H1.size := by rw [k.size]; simp
      rw [← e2] at a1
      simp (maxDischargeDepth := 40) [hf, f6, hl, hi, ci, w2, a1, a2, hob, hFl, hs, w1]
      exact ⟨w - (i + 1), by omega, i + 1, rfl, by omega, by omega, k.set _, by rw [Nat.min_eq_left hi]⟩
    · have ci : ¬ (i : Int) < w := by omega
      rw [Nat.min_eq_right (by omega)] at hob
      simp [hf, f6, hl, ci]
      exact ⟨k, hob⟩

theorem rzero_run {w : Nat} (hw : w ≤ 128) {x : BitVec w} {v : AV} {H : AHeap} (hv : RB H v (bl x)) : R f_plaitref1_zero [v] H = some (.bool (decide (x = 0#w)), H) := by
  generalize h : R f_plaitref1_zero _ H = r
  rw [e_plaitref1_zero] at h
  have hl := hv.len
  rw [bl_length] at hl
  simp (maxDischargeDepth := 40) [c_plaitref1_zero] at h
  generalize hL : loopL _ _ _ _ _ _ = q at h
  have hloop := loop_count l_plaitref1_zero_0.eq_1 hL w (fun i e1 H1 => e1 3 = some (.int .i64 i) ∧ H1 = H ∧ ∀ j, j < i → x.getLsbD j = false) (fun z e' H' => H' = H ∧ ((z = .exit 0 ∧ x = 0#w) ∨ (z = .ret ∧ e' 2 = some (.bool false) ∧ ¬ x = 0#w))) 0 (Nat.zero_le _) ⟨by simp, rfl, by simp⟩ ?_ ?_
  · obtain ⟨z, e1, H1, rfl, ⟨rfl, hz⟩, fr⟩ := hloop
    rcases hz with ⟨rfl, hz⟩ | ⟨rfl, hz, hn⟩
    · simp (maxDischargeDepth := 40) at h
      rw [← h, hz]; simp
    · simp (maxDischargeDepth := 40) [hz] at h
      rw [← h, decide_eq_false hn]
  · rintro i f H1 hf - hi ⟨f3, rfl, hall⟩
    have w1 := i64w (n := (i : Int) + 1) (by omega) (by omega)
    have a1 := hv.ix (P := Go.Proofs.Try.prog) (t := T_s_bool) (by simp) (i := i) (by simpa using hi)
    have a2 := hv.at (P := Go.Proofs.Try.prog) (t := T_bool) (by simp) (i := i) (by simpa using hi)
    rw [bl_getD] at a2
    have ci : (i : Int) < w := by omega
    cases hb : x.getLsbD i with
    | true =>
      rw [hb] at a2
      simp (maxDischargeDepth := 40) [hf, f3, hl, ci, a1, a2]
      intro e
      rw [e] at hb
      simp at hb
    | false =>
      rw [hb] at a2
      simp (maxDischargeDepth := 40) [hf, f3, hl, ci, a1, a2, w1]
      intro j hj
      by_cases e : j = i
      · rw [e]; exact hb
      · exact hall j (by omega)
  · rintro f H1 hf ⟨f3, rfl, hall⟩
    simp [hf, f3, hl]
    exact BitVec.eq_of_getLsbD_eq fun i hi => by rw [hall i hi]; simp
end Go.Proofs.Ytcnhpkongbdihaa

/- The document's functions on bits: div, smod, each, words. -/
import Derived.Test.YtcnhpkongbdihaaBR4
import Derived.Test.YtcnhpkongbdihaaBV4
namespace Go.Proofs.Ytcnhpkongbdihaa
set_option maxRecDepth 100000
set_option maxHeartbeats 4000000

/-- A quotient's bits, from above. -/
def QL {w : Nat} (z : BitVec w) (m : Nat) : List AV := (List.range w).map fun j => .bool (decide (m ≤ j) && z.getLsbD j)
theorem QL_len {w : Nat} (z : BitVec w) (m : Nat) : (QL z m).length = w := by simp [QL]
theorem QL_top {w : Nat} (z : BitVec w) : QL z w = List.replicate w (.bool false) := by
  apply List.ext_getElem (by simp [QL])
  intro i h1 h2
  have hi : i < w := by simpa [QL] using h1
  have : ¬ w ≤ i := by omega
  simp [QL, this]
theorem QL_zero {w : Nat} (z : BitVec w) : QL z 0 = (bl z).map .bool := by
  apply List.ext_getElem (by simp [QL])
  intro i h1 h2
  simp [QL, bl]
theorem QL_yes {w : Nat} {z : BitVec w} {m : Nat} (h : z.getLsbD m = true) : (QL z (m + 1)).set m (.bool true) = QL z m := by
  apply List.ext_getElem (by simp [QL])
  intro i h1 h2
  rw [List.getElem_set]
  simp only [QL, List.getElem_map, List.getElem_range]
  by_cases e : m = i
  · subst e; simp [h]
  · rw [if_neg e]
    have : (m + 1 ≤ i) ↔ (m ≤ i) := by omega
    simp [this]
theorem QL_no {w : Nat} {z : BitVec w} {m : Nat} (h : z.getLsbD m = false) : QL z (m + 1) = QL z m := by
  unfold QL
  apply List.map_congr_left
  intro i _
  by_cases e : m = i
  · subst e; simp [h]
  · have : (m + 1 ≤ i) ↔ (m ≤ i) := by omega
    simp [this]
theorem inB_cells {w : Nat} (r : BitVec w) (b : Bool) : ((bl (r <<< 1)).map AV.bool).set 0 (.bool b) = (bl (inB r b)).map .bool := by
  apply List.ext_getElem (by simp)
  intro i h1 h2
  have hi : i < w := by simpa using h2
  rw [List.getElem_set]
  simp only [List.getElem_map, bl, List.getElem_range, inB_bit r b hi, BitVec.getLsbD_shiftLeft]
  by_cases e : 0 = i
  · subst e; simp
  · have h3 : ¬ i = 0 := by omega
    have h4 : ¬ i < 1 := by omega
    simp [e, h3, h4, hi]

theorem RB_lst {w : Nat} (H : AHeap) (z : BitVec w) : RB H (.lst 1 w ((bl z).map .bool)) (bl z) := by
  have := RB.lst (H := H) (bs := bl z)
  unfold BL at this
  rwa [bl_length] at this
theorem rdiv_run {w : Nat} (h1 : 1 ≤ w) (hw : w ≤ 128) {x y : BitVec w} {v v' : AV} {H : AHeap} (hv : RB H v (bl x)) (hv' : RB H v' (bl y)) : R f_plaitref1_div [v, v'] H = some (.tup [BL (bl (qB x y)), BL (bl (x % y))], H) := by
  generalize h : R f_plaitref1_div _ H = r
  rw [e_plaitref1_div] at h
  have hl := hv.len
  rw [bl_length] at hl
  have c1 : (w : Int) ≤ 140737488355328 := by omega
  have c2 : (w : Int) ≤ 9223372036854775807 := by omega
  have w0 : IntKind.i64.wrap ((w : Int) - 1) = (w : Int) - 1 := i64w (by omega) (by omega)
  have kb : Keeps H ((H.new (.cells (List.replicate w (.bool false)))).new (.cells (List.replicate w (.bool false)))) := (Keeps.new _ _).trans (Keeps.new _ _)
  have hz := rzero_run hw (hv'.keep kb)
  by_cases hy : y = 0#w
  · have hnot := rnot_run hw (x := 0#w) (v := .row H.size 0 1 w true) (H := (H.new (.cells (List.replicate w (.bool false)))).new (.cells (List.replicate w (.bool false)))) (RB.row (by simp) (by simp [zero_bl]) (by simp))
    rw [decide_eq_true hy] at hz
    simp (maxDischargeDepth := 40) [c_plaitref1_div, hl, c1, c2, hz, hnot] at h
    generalize hA : appU _ _ _ _ = q at h
    obtain ⟨H1, rfl, f1, s1, oo, -⟩ := app_of hA (Reads.nils (sz := 1)) grows_nils (show Reads _ v 1 w ((bl x).map .bool) from by have := hv.keep kb; unfold RB at this; rwa [bl_length] at this) (by omega) rfl (by omega) (by omega) (by omega) (allOne_bits _)
    simp only [List.nil_append, new_size] at oo s1
    have k1 : Keeps H H1 := (f1.keeps kb (by simp))
    simp (maxDischargeDepth := 40) at h
    rw [back_rb2 k1 RB.lst (by simp [BL]) (by simp [BL]) (RB.row (o := H.size + 1 + 1) (n := w) (full := false) (bs := bl x) (by omega) oo (by simp)) (by simp) (by simp)] at h
    rw [← h]
    subst hy
    simp [qB, BitVec.umod_zero, BitVec.allOnes]
  · rw [decide_eq_false hy] at hz
    have hb : 0 < y.toNat := by
      rcases Nat.eq_zero_or_pos y.toNat with h0 | h0
      · exact absurd (BitVec.eq_of_toNat_eq (by simpa using h0)) hy
      · exact h0
    simp (maxDischargeDepth := 40) [c_plaitref1_div, hl, c1, c2, hz, w0] at h
    generalize hL : loopL _ _ _ _ _ _ = q at h
    have hloop := loop_rule l_plaitref1_div_0.eq_1 hL (fun m e1 H1 => m ≤ w ∧ e1 8 = some (.int .i64 ((m : Int) - 1)) ∧ Keeps H H1 ∧ H.size < H1.size ∧ H1.obj H.size = .cells (QL (x / y) m) ∧ ∃ (u : AV) (r : BitVec w), e1 7 = some u ∧ RB H1 u (bl r) ∧ u ≠ .nils ∧ (∀ p, p ∈ objs u → H.size < p) ∧ r.toNat = x.toNat / 2 ^ m % y.toNat)
      (fun z e' H' => z = .exit 0 ∧ Keeps H H' ∧ H.size < H'.size ∧ H'.obj H.size = .cells (QL (x / y) 0) ∧ ∃ (u : AV) (r : BitVec w), e' 7 = some u ∧ RB H' u (bl r) ∧ u ≠ .nils ∧ (∀ p, p ∈ objs u → H.size < p) ∧ r.toNat = x.toNat % y.toNat) w
      ⟨Nat.le_refl _, by simp, kb, by simp, by rw [QL_top]; simp, .row (H.size + 1) 0 1 w true, 0#w, by simp, RB.row (by simp) (by simp [zero_bl]) (by simp), by simp, by simp, by rw [top_zero]; simp⟩ ?_
    · obtain ⟨z, e1, H1, rfl, ⟨rfl, k1, z1, ob1, u, rr, e7, hu, hn, ho, hr⟩, fr⟩ := hloop
      rw [QL_zero] at ob1
      have hrr : rr = x % y := BitVec.eq_of_toNat_eq (by rw [hr, BitVec.toNat_umod])
      rw [hrr] at hu
      simp (maxDischargeDepth := 40) [e7, fr] at h
      rw [back_rb2 k1 (RB.row (bs := bl (x / y)) z1 ob1 (by simp)) (by simp) (by simp) hu hn (fun p hp => Nat.le_of_lt (ho p hp))] at h
      rw [← h]
      simp [qB, hy]
    · rintro m f H1 hf ⟨hm, f8, k1, z1, ob1, u, rr, f7, hu, hn, ho, hr⟩
      cases m with
      | zero =>
        simp [f8]
        refine ⟨k1, z1, ob1, u, f7, rr, hu, hn, ho, ?_⟩
        simpa using hr
      | succ m =>
        have hm' : m < w := hm
        have hul := hu.len
        rw [bl_length] at hul
        have e0 : (w : Int) - 1 = ((w - 1 : Nat) : Int) := by omega
        have u1 := hu.ix (P := Go.Proofs.Try.prog) (t := T_s_bool) (by simp) (i := w - 1) (by simp; omega)
        have u2 := hu.at (P := Go.Proofs.Try.prog) (t := T_bool) (by simp) (i := w - 1) (by simp; omega)
        rw [bl_getD] at u2
        rw [← e0] at u1
        have w1 : IntKind.i64.wrap ((m : Int) - 1) = (m : Int) - 1 := i64w (by omega) (by omega)
        have e1i : ((m : Int) + 1 - 1) = (m : Int) := by omega
        obtain ⟨q1, q2⟩ := quo_step (x := x) hb hr
        have hrlt : rr.toNat < y.toNat := by rw [hr]; exact Nat.mod_lt _ hb
        have hcond := div_cond (by omega : 0 < w) hrlt (x.getLsbD m)
        simp (maxDischargeDepth := 40) [f7, f8, hul, w0, u1, u2, e1i]
        generalize hU : R f_plaitref1_up _ _ = qq
        obtain ⟨H2, rfl, k2, s2, ob2⟩ := rup_run hw (n := 1) (by omega) hu hU
        have kk := k1.trans k2
        have a1 := (hv.keep kk).ix (P := Go.Proofs.Try.prog) (t := T_s_bool) (by simp) (i := m) (by simpa using hm')
        have a2 := (hv.keep kk).at (P := Go.Proofs.Try.prog) (t := T_bool) (by simp) (i := m) (by simpa using hm')
        rw [bl_getD] at a2
        have ic := inB_cells rr (x.getLsbD m)
        generalize x.getLsbD m = bit at *
        have l2 : H1.size < H2.size := by omega
        have hw0 : 0 < w := by omega
        have hw0' : (0 : Int) < w := by omega
        have K3 : Keeps H (H2.set H1.size (.cells ((bl (inB rr bit)).map .bool))) := kk.set k1.size _
        have hrow : RB (H2.set H1.size (.cells ((bl (inB rr bit)).map .bool))) (.row H1.size 0 1 w true) (bl (inB rr bit)) := RB.row (by simpa using l2) (by simp) (by simp)
        have hbel := rbelow_run hw hrow (hv'.keep K3)
        have ob3 : (H2.set H1.size (.cells ((bl (inB rr bit)).map .bool))).obj H.size = .cells (QL (x / y) (m + 1)) := by
          have : ¬ H.size = H1.size := by omega
          simp [this]
          rw [k2.obj _ z1]; exact ob1
        have hsub := rsub_run hw hrow (hv'.keep K3)
        generalize decide (inB rr bit < y) = bel at *
        generalize rr.getLsbD (w - 1) = over at *
        have z3 : H.size < (H2.set H1.size (.cells ((bl (inB rr bit)).map .bool))).size := by simp; omega
        obtain ⟨H3, hH3⟩ : ∃ H3, H3 = H2.set H1.size (.cells ((bl (inB rr bit)).map .bool)) := ⟨_, rfl⟩
        rw [← hH3] at K3 hrow hbel ob3 hsub z3
        by_cases hc : y.toNat ≤ 2 * rr.toNat + bit.toNat
        · rw [decide_eq_true hc] at hcond q1
          rw [if_pos hc, ← div_yes hrlt hc] at q2
          have hql := QL_yes q1
          have hqlen := QL_len (x / y) (m + 1)
          have cm : (m : Int) < w := by omega
          cases over with
          | true =>
            simp (maxDischargeDepth := 40) [hf, f8, a1, a2, ob2, hw0, ic, ← hH3, hsub, ob3, hql, hqlen, cm, hm', z3, w1]
            exact ⟨m, by omega, by omega, rfl, K3.set (Nat.le_refl _) _, rfl, inB rr bit - y, RB.lst, by simp [BL], by simp [BL], q2.symm⟩
          | false =>
            have : bel = false := by simpa using hcond
            subst this
            simp (maxDischargeDepth := 40) [hf, f8, a1, a2, ob2, hw0, ic, ← hH3, hbel, hsub, ob3, hql, hqlen, cm, hm', z3, w1]
            exact ⟨m, by omega, by omega, rfl, K3.set (Nat.le_refl _) _, rfl, inB rr bit - y, RB.lst, by simp [BL], by simp [BL], q2.symm⟩
        · rw [decide_eq_false hc] at hcond q1
          rw [if_neg hc, ← div_no hc] at q2
          have hql := QL_no q1
          rw [hql] at ob3
          have ho' : over = false ∧ bel = true := by
            cases over <;> cases bel <;> simp at hcond ⊢
          obtain ⟨rfl, rfl⟩ := ho'
          simp (maxDischargeDepth := 40) [hf, f8, a1, a2, ob2, hw0, ic, ← hH3, hbel, ob3, z3, w1]
          exact ⟨m, by omega, by omega, rfl, K3, rfl, inB rr bit, hrow, by omega, q2.symm⟩
end Go.Proofs.Ytcnhpkongbdihaa

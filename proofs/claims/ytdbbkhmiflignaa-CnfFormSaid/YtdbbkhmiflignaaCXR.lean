/- The statements' own script of an encoder in the heap: a step (a slice of its own). -/
import Derived.Test.YtdbbkhmiflignaaCX
namespace Go.Proofs.Ytdbbkhmiflignaa
set_option maxRecDepth 100000

set_option maxHeartbeats 40000000 in
theorem play_row {Hb H1 : AHeap} {x g e mo to : Nat} {av lv rv : AV} {vs : List AV} {G : List Nat} {s : PS} {first : Int} {n i : Nat} (hn : n ≤ 100) (hi : i < n) (hf1 : first ≤ 1000) {wt a b : Int} {e1 : Env} (f6 : e1 6 = some (.int .i64 i)) (X : XR Hb H1 x g e mo to av lv rv vs G s) (P : PI first s i) (e5 : e1 5 = some (.ptr x 0)) {o off : Nat} {f : Bool} {all : List AV} (e0 : e1 0 = some (.row o off 3 n f)) (hob : H1.obj o = .cells all) (b1 : all[off + i * 3]? = some (.int .i64 wt)) (b2 : all[off + i * 3 + 1]? = some (.int .i64 a)) (b3 : all[off + i * 3 + 2]? = some (.int .i64 b)) : Wp (evalL Go.Proofs.Try.prog KT R l_plaitlaw10_play_0 e1 H1) fun y e2 H2 => y = .normal ∧ e2 6 = some (.int .i64 (i + 1 : Nat)) ∧ ∃ av' lv' rv' vs' G', XR Hb H2 x g e mo to av' lv' rv' vs' G' (s.step (wt, a, b)) ∧ PI first (s.step (wt, a, b)) (i + 1) := by
  rw [l_plaitlaw10_play_0.eq_1]
  have P' := P.step (wt, a, b)
  have hle := P.le
  have w1 : IntKind.i64.wrap ((i : Int) + 1) = (i : Int) + 1 := i64w (by omega) (by omega)
  have w2 : IntKind.i64.wrap (2 * (s.ks.length : Int)) = 2 * s.ks.length := i64w (by omega) (by omega)
  have w3 : IntKind.i64.wrap (2 * (s.ks.length : Int) + 2) = 2 * s.ks.length + 2 := i64w (by omega) (by omega)
  have c1 : (i : Int) < n := by omega
  have hnod := nodes_run X.ga
  have hpl := fun k H => place_run (k := k) (n := 2 * (s.ks.length : Int) + 2) (by omega) (by omega) (H := H)
  obtain ⟨A, hA⟩ : ∃ A, A = placeF a (2 * (s.ks.length : Int) + 2) := ⟨_, rfl⟩
  obtain ⟨B, hB⟩ : ∃ B, B = placeF b (2 * (s.ks.length : Int) + 2) := ⟨_, rfl⟩
  have hpA := fun H => hpl a H
  have hpB := fun H => hpl b H
  rw [← hA] at hpA
  rw [← hB] at hpB
  have hlA : isL s.ks.length A := by rw [hA]; exact place_lit
  by_cases h0 : wt = 0
  · subst h0
    simp (maxDischargeDepth := 40) [f6, e0, e5, c1, hob, b1, b2, b3, X.self, hnod, w2, w3, hpA, hpB]
    generalize hI : R f_plait_aig_Graph_Inputs _ _ = q
    obtain ⟨v, rfl, rdv⟩ := inputs_run X.ga P.rt hI
    have hvl := (rdv H1).len
    by_cases c5 : (insF s.ks 0).length < 5
    · have c5' : ((insF s.ks 0).length : Int) < 5 := by omega
      simp (maxDischargeDepth := 40) [hvl, c5', X.self, e5]
      generalize hN : R f_plait_aig_Graph_Input _ _ = q
      obtain ⟨H2, F2, rfl, g2, m2⟩ := input_run X.ga P.rt hN
      simp [f6, w1]
      exact ⟨⟨av, lv, rv, vs, F2, by simpa [PS.step, c5] using X.grow g2 m2⟩, P'⟩
    · have c5' : ¬ ((insF s.ks 0).length : Int) < 5 := by omega
      simp (maxDischargeDepth := 40) [hvl, c5', f6, w1]
      exact ⟨⟨av, lv, rv, vs, G, by simpa [PS.step, c5] using X⟩, P'⟩
  by_cases h1 : wt = 1 ∨ wt = 2 ∨ wt = 3
  · have hstep : s.step (wt, a, b) = s.grow (andF 60 s.ks A B).ks := by unfold PS.step; simp only; rw [if_neg h0, if_pos h1, hA, hB]
    rw [hstep] at P' ⊢
    rcases h1 with rfl | rfl | rfl
    · simp (maxDischargeDepth := 40) [f6, e0, e5, c1, hob, b1, b2, b3, X.self, hnod, w2, w3, hpA, hpB]
      generalize hN : R f_plait_aig_Graph_And _ _ = q
      obtain ⟨H2, F2, rfl, g2, m2⟩ := and_run X.ga P.rt hN
      simp [f6, w1]
      exact ⟨⟨av, lv, rv, vs, F2, X.grow g2 m2⟩, P'⟩
    · simp (maxDischargeDepth := 40) [f6, e0, e5, c1, hob, b1, b2, b3, X.self, hnod, w2, w3, hpA, hpB]
      generalize hN : R f_plait_aig_Graph_And _ _ = q
      obtain ⟨H2, F2, rfl, g2, m2⟩ := and_run X.ga P.rt hN
      simp [f6, w1]
      exact ⟨⟨av, lv, rv, vs, F2, X.grow g2 m2⟩, P'⟩
    · simp (maxDischargeDepth := 40) [f6, e0, e5, c1, hob, b1, b2, b3, X.self, hnod, w2, w3, hpA, hpB]
      generalize hN : R f_plait_aig_Graph_And _ _ = q
      obtain ⟨H2, F2, rfl, g2, m2⟩ := and_run X.ga P.rt hN
      simp [f6, w1]
      exact ⟨⟨av, lv, rv, vs, F2, X.grow g2 m2⟩, P'⟩
  by_cases h4 : wt = 4
  · have hstep : s.step (wt, a, b) = s.grow (xorF 60 s.ks A B).ks := by unfold PS.step; simp only; rw [if_neg h0, if_neg h1, if_pos h4, hA, hB]
    rw [hstep] at P' ⊢
    subst h4
    simp (maxDischargeDepth := 40) [f6, e0, e5, c1, hob, b1, b2, b3, X.self, hnod, w2, w3, hpA, hpB]
    generalize hN : R f_plait_aig_Graph_Xor _ _ = q
    obtain ⟨H2, F2, rfl, g2, m2⟩ := xor_run X.ga P.rt hN
    simp [f6, w1]
    exact ⟨⟨av, lv, rv, vs, F2, X.grow g2 m2⟩, P'⟩
  by_cases h5 : wt = 5 ∨ wt = 6 ∨ wt = 7
  · have hstep : s.step (wt, a, b) = s.root A := by unfold PS.step; simp only; rw [if_neg h0, if_neg h1, if_neg h4, if_pos h5, hA]
    rw [hstep] at P' ⊢
    rcases h5 with rfl | rfl | rfl
    · simp (maxDischargeDepth := 40) [f6, e0, e5, c1, hob, b1, b2, b3, X.self, hnod, w2, w3, hpA, hpB]
      generalize hN : R f_plait_plaitlaw10_run_root _ _ = q
      obtain ⟨H2, av2, lv2, rv2, vs2, G2, rfl, X2⟩ := xroot_run X P (by omega) hf1 hlA hN
      simp [f6, w1]
      exact ⟨⟨av2, lv2, rv2, vs2, G2, X2⟩, P'⟩
    · simp (maxDischargeDepth := 40) [f6, e0, e5, c1, hob, b1, b2, b3, X.self, hnod, w2, w3, hpA, hpB]
      generalize hN : R f_plait_plaitlaw10_run_root _ _ = q
      obtain ⟨H2, av2, lv2, rv2, vs2, G2, rfl, X2⟩ := xroot_run X P (by omega) hf1 hlA hN
      simp [f6, w1]
      exact ⟨⟨av2, lv2, rv2, vs2, G2, X2⟩, P'⟩
    · simp (maxDischargeDepth := 40) [f6, e0, e5, c1, hob, b1, b2, b3, X.self, hnod, w2, w3, hpA, hpB]
      generalize hN : R f_plait_plaitlaw10_run_root _ _ = q
      obtain ⟨H2, av2, lv2, rv2, vs2, G2, rfl, X2⟩ := xroot_run X P (by omega) hf1 hlA hN
      simp [f6, w1]
      exact ⟨⟨av2, lv2, rv2, vs2, G2, X2⟩, P'⟩
  by_cases h8 : wt = 8
  · have hstep : s.step (wt, a, b) = s.fresh := by unfold PS.step; simp only; rw [if_neg h0, if_neg h1, if_neg h4, if_neg h5, if_pos h8]
    rw [hstep] at P' ⊢
    subst h8
    have hp0 : 0 ≤ s.E.last := by have := P.ev.pos; have := P.ev.le; omega
    have hlb := P.lastB
    have hfr := fresh_run X.er hp0 (by omega) rfl
    have hev := evars_run X.er.next
    have hne : ¬ x = e := by
      obtain ⟨t, t0, t1, -⟩ := X.tg
      rintro rfl; omega
    have hne' : ¬ e = x := fun h => hne h.symm
    have elo := X.er.lo
    have ho := X.self
    have hxm : x ≠ mo ∧ x ≠ to := by
      obtain ⟨t, t0, t1, t2, t3, -⟩ := X.tg
      exact ⟨by rintro rfl; omega, by rintro rfl; omega⟩
    have hEl : s.E.next.last = s.E.last + 1 := rfl
    simp (maxDischargeDepth := 40) [f6, e0, e5, c1, hob, b1, b2, b3, X.self, hnod, w2, w3, hpA, hpB, hfr, hev, hne, hEl, w1]
    refine ⟨⟨av, lv, rv, vs, G, ?_⟩, P'⟩
    exact X.upd (((Fr.refl _ H1).set (.inl (by simp)) _).set (.inl (by simp)) _) (by simp) (X.er.next.set_other hne hxm.1 hxm.2)
  have hstep : s.step (wt, a, b) = s := by unfold PS.step; simp only; rw [if_neg h0, if_neg h1, if_neg h4, if_neg h5, if_neg h8]
  rw [hstep] at P' ⊢
  simp only [not_or] at h1 h5
  simp (maxDischargeDepth := 40) [f6, e0, e5, c1, hob, b1, b2, b3, X.self, hnod, w2, w3, hpA, hpB, h0, h1, h4, h5, h8, w1]
  exact ⟨⟨av, lv, rv, vs, G, X⟩, P'⟩
end Go.Proofs.Ytdbbkhmiflignaa

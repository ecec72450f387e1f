/- The law AigPlays. -/
import Derived.Test.YtphkkcocimmmfaaAX5
import Derived.Test.YtphkkcocimmmfaaRX4
namespace Go.Proofs.Ytphkkcocimmmfaa
set_option maxRecDepth 100000
set_option maxHeartbeats 4000000

/-- Both graphs. -/
structure Two (H : AHeap) (o q : Nat) (m : Int) (ks : Kd) (F E : List Nat) : Prop where
  ga : GAt H o m ks F
  ra : RAt H q m ks E
  rt : Rt m ks
  dj : ∀ p, p ∈ F → p ∉ E
theorem Two.keeps {H H' : AHeap} {o q : Nat} {m : Int} {ks : Kd} {F E : List Nat} (T : Two H o q m ks F E) (k : Keeps H H') : Two H' o q m ks F E := ⟨T.ga.keeps k, T.ra.keeps k, T.rt, T.dj⟩
theorem Two.make {H H1 H2 : AHeap} {o q : Nat} {m : Int} {ks js : Kd} {F E F' E' : List Nat} (T : Two H o q m ks F E) (g1 : GAt H1 o m js F') (m1 : Mv F H F' H1) (g2 : RAt H2 q m js E') (m2 : Mv E H1 E' H2) (hr : Rt m js) : Two H2 o q m js F' E' := by
  have dj1 : ∀ p, p ∈ F' → p ∉ E := fun p hp hE => by
    rcases m1.new p hp with h | h
    · exact T.dj p h hE
    · have := T.ra.lt hE; omega
  refine ⟨g1.keep m2.fr dj1, g2, hr, fun p hp hE => ?_⟩
  rcases m2.new p hE with h | h
  · exact dj1 p hp h
  · have := g1.lt hp; omega

theorem cones_of {H1 : AHeap} {o q : Nat} {m : Int} {ks : Kd} {F E : List Nat} (T : Two H1 o q m ks F E) {l : Int} (bl : l ≤ 9223372036854775807) : ∃ V W : AHeap → AV, (∀ H2, Keeps H1 H2 → R f_plait_aig_Graph_Cone [.ptr o 0, .int .i64 l] H2 = some (V H2, H2)) ∧ (∀ H2, Keeps H1 H2 → R f_plait_plaitref8_Graph_Cone [.ptr q 0, .int .i64 l] H2 = some (W H2, H2)) ∧ ∀ A B H', Keeps H1 A → Keeps H1 B → R f_plaithelp_Ints [V A, W B] H' = some (.bool true, H') := by
  obtain ⟨V, hV, rV⟩ := RetI.all fun H' (k : Keeps H1 H') => cone_run (T.ga.keeps k) T.rt (l := l) rfl
  obtain ⟨W, hW, rW⟩ := RetI.all fun H' (k : Keeps H1 H') => rcone_run (T.ra.keeps k) T.rt bl rfl
  refine ⟨V, W, hV, hW, fun A B H' ka kb => ?_⟩
  have hm := T.rt.most
  have hl := T.rt.le
  have hcl : (coneF ks l).length ≤ 1000000 := by
    unfold coneF
    split
    · rename_i h
      rw [isL_lt] at h
      exact Nat.le_trans (outF_len _ _) (by omega)
    · simp
  rw [ints_run (rV A H' ka) (rW B H' kb) hcl]
  simp

theorem plays_loop0 {ss : List Sp} (hs : ss.length ≤ 200) (hfit : ∀ s, s ∈ ss → s.fits) {e : Env} {H : AHeap} {r : Rn} (hL : loopL Go.Proofs.Try.prog KT R l_plaitlaw8_AigPlays_0 e H = r) {o q : Nat} {m : Int} {F E : List Nat} (T : Two H o q m [] F E)
    (e1' : e 1 = some (.lst 5 ss.length (stepsC ss))) (e7 : e 7 = some (.ptr o 0)) (e8 : e 8 = some (.ptr q 0)) (e9 : e 9 = some (.int .i64 0)) :
    ∃ x e' H', r = some (x, e', H') ∧ (x = .exit 0 ∧ ∃ ks F E, Two H' o q m ks F E) ∧ ∀ t, t ∉ defs l_plaitlaw8_AigPlays_0 → e' t = e t := by
  refine loop_count l_plaitlaw8_AigPlays_0.eq_1 hL ss.length (fun i e1 H1 => e1 9 = some (.int .i64 i) ∧ ∃ ks F E, Two H1 o q m ks F E) _ 0 (Nat.zero_le _) ⟨e9, [], F, E, T⟩ ?_ ?_
  · rintro i f H1 hf - hi ⟨f9, ks, F1, E1, T1⟩
    obtain ⟨s, hsi⟩ : ∃ s, ss[i]? = some s := ⟨ss[i], List.getElem?_eq_getElem hi⟩
    have hsf := hfit s (List.mem_of_getElem? hsi)
    obtain ⟨b1, b2, b3⟩ := stepsC_at hsi
    have w1 : IntKind.i64.wrap ((i : Int) + 1) = (i : Int) + 1 := i64w (by omega) (by omega)
    have ci : (i : Int) < ss.length := by omega
    have hm := T1.rt.most
    have hl := T1.rt.le
    have hlits := fun H => lits_run (s := s) (n := ks.length) (by omega) (by omega) (H := H)
    obtain ⟨ba, bb, bc⟩ := litsF_max hsf (n := ks.length) (by omega) (by omega)
    unfold Pure at hlits
    generalize litsF s ↑ks.length = abc at hlits ba bb bc
    obtain ⟨a, b, c⟩ := abc
    simp only at hlits ba bb bc
    obtain ⟨lv, gr, hE1⟩ := id T1.ra
    simp (maxDischargeDepth := 40) [hf, f9, e1', e7, e8, ci, b1, b2, b3, gr.self, gr.rk.len, hlits]
    generalize hN : R f_plaitlaw8_does _ _ = qq
    obtain ⟨js, hj⟩ : ∃ js, doesF m ks s.what a b c = js := ⟨_, rfl⟩
    obtain ⟨H2, F2, rfl, g2, m2⟩ := does_run T1.ga T1.rt hN
    have ra2 : RAt H2 q m ks E1 := T1.ra.keep m2.fr fun p hp h => T1.dj p h hp
    simp (maxDischargeDepth := 40) [hf, f9, e1', e8, ci, b2]
    generalize hN : R f_plaitlaw8_doesRef _ _ = qq
    obtain ⟨H3, E3, rfl, g3, m3⟩ := rdoes_run ra2 T1.rt ba bb bc hN
    have hrj := (T1.rt.does s.what a b c).rt
    rw [hj] at g2 g3 hrj
    rw [hj]
    have T3 := T1.make g2 m2 g3 m3 hrj
    obtain ⟨l, er, js⟩ := js
    simp only at T3
    have hnodes := nodes_run T3.ga
    obtain ⟨lv3, gr3, -⟩ := id T3.ra
    have hk := fun H' (k : Keeps H3 H') => kids_run (T3.ga.keeps k) T3.rt (n := a)
    unfold Pure at hk
    have hrk := fun H' (k : Keeps H3 H') => rkids_run (T3.ra.keeps k) T3.rt (n := a)
    generalize kidsF js a = kk at hk hrk
    obtain ⟨k1, k2, k3⟩ := kk
    simp only at hk hrk
    obtain ⟨V, W, hV, hW, hI⟩ := cones_of T3 bb
    simp (maxDischargeDepth := 40) [hf, f9, e7, e8, hnodes, gr3.self, gr3.rk.len, hk, hrk, hV, hW, hI, w1]
    exact ⟨js, F2, E3, T3⟩
  · rintro f H1 hf ⟨f9, ks, F1, E1, T1⟩
    simp [hf, f9, e1']
    exact ⟨ks, F1, E1, T1⟩

theorem plays_loop1 {H : AHeap} {o q : Nat} {m : Int} {ks : Kd} {F E : List Nat} (T : Two H o q m ks F E) {inp : List Bool} {e : Env} {r : Rn} (hL : loopL Go.Proofs.Try.prog KT R l_plaitlaw8_AigPlays_1 e H = r)
    (e2 : e 2 = some (.lst 1 inp.length (inp.map .bool))) (e7 : e 7 = some (.ptr o 0)) (e8 : e 8 = some (.ptr q 0)) (e23 : e 23 = some (.int .i64 (-1))) :
    ∃ x e' H', r = some (x, e', H') ∧ (x = .exit 2 ∧ H' = H) ∧ ∀ t, t ∉ defs l_plaitlaw8_AigPlays_1 → e' t = e t := by
  have hm := T.rt.most
  have hl := T.rt.le
  have w0 : IntKind.i64.wrap ((ks.length : Int) + 1) = (ks.length : Int) + 1 := i64w (by omega) (by omega)
  obtain ⟨lv, gr, hE1⟩ := id T.ra
  refine loop_count l_plaitlaw8_AigPlays_1.eq_1 hL (ks.length + 3) (fun i e1 H1 => e1 23 = some (.int .i64 ((i : Int) - 1)) ∧ H1 = H) _ 0 (by omega) ⟨e23, rfl⟩ ?_ ?_
  · rintro i f H1 hf - hi ⟨f23, rfl⟩
    have w1 : IntKind.i64.wrap (i : Int) = (i : Int) := i64w (by omega) (by omega)
    have w2 : IntKind.i64.wrap (2 * ((i : Int) - 1)) = 2 * ((i : Int) - 1) := i64w (by omega) (by omega)
    have e1i : (i : Int) - 1 + 1 = i := by omega
    have c1 : (i : Int) - 1 ≤ (ks.length : Int) + 1 := by omega
    have bx : 2 * ((i : Int) - 1) ≤ 9223372036854775807 := by omega
    have hk := (kids_run T.ga T.rt (n := (i : Int) - 1)).run
    have hrk := rkids_run T.ra T.rt (n := (i : Int) - 1)
    have hv := eval_run T.ga T.rt (l := 2 * ((i : Int) - 1)) (w := .lst 1 inp.length (inp.map .bool)) (inp := inp) (Reads.lst (by simp)) rfl
    have hrv := reval_run T.ra T.rt (l := 2 * ((i : Int) - 1)) bx (w := .lst 1 inp.length (inp.map .bool)) (inp := inp) (Reads.lst (by simp))
    obtain ⟨y, hy⟩ : ∃ y, 2 * ((i : Int) - 1) = y := ⟨_, rfl⟩
    rw [hy] at w2 bx hv hrv
    generalize (i : Int) - 1 = x at *
    generalize kidsF ks x = kk at hk hrk
    obtain ⟨k1, k2, k3⟩ := kk
    generalize evalF ks y inp = vv at hv hrv
    obtain ⟨v1, v2⟩ := vv
    simp only at hk hrk hv hrv
    simp (maxDischargeDepth := 40) [hf, f23, e2, e7, e8, gr.self, gr.rk.len, w0, c1, hk, hrk, w2, hv, hrv, hy, e1i, w1]
  · rintro f H1 hf ⟨f23, rfl⟩
    have c1 : ¬ ((ks.length + 3 : Nat) : Int) - 1 ≤ (ks.length : Int) + 1 := by omega
    generalize ((ks.length + 3 : Nat) : Int) - 1 = x at *
    simp (maxDischargeDepth := 40) [hf, f23, e8, gr.self, gr.rk.len, w0, c1]

theorem back_bool {H H' : AHeap} {b : Bool} : ∃ H2, some (back [] H (.bool b) H') = some (.bool b, H2) := by
  unfold back
  split
  · exact ⟨_, by rw [frz_bool]⟩
  · exact ⟨_, rfl⟩
theorem plays_run {ss : List Sp} {inp : List Bool} {most : Int} (hfit : ∀ s, s ∈ ss → s.fits) {H : AHeap} : ∃ H', R f_plaitlaw8_AigPlays [.int .i64 most, .lst 5 ss.length (stepsC ss), .lst 1 inp.length (inp.map .bool)] H = some (.bool true, H') := by
  generalize h : R f_plaitlaw8_AigPlays _ H = r
  have hkn := fun H => known_run (H := H)
  rw [e_plaitlaw8_AigPlays] at h
  by_cases hs : 200 < (ss.length : Int)
  · simp [c_plaitlaw8_AigPlays, hkn, hs] at h
    exact ⟨_, h.symm⟩
  by_cases hn : 300 < (inp.length : Int)
  · simp [c_plaitlaw8_AigPlays, hkn, hs, hn] at h
    exact ⟨_, h.symm⟩
  simp [c_plaitlaw8_AigPlays, hkn, hs, hn] at h
  generalize hN : R f_aig_New _ _ = q at h
  obtain ⟨H1, o, F1, rfl, g1, k1, f1⟩ := new_run hN
  simp at h
  generalize hN : R f_plaitref8_New _ _ = q at h
  obtain ⟨H2, q, E2, rfl, g2, k2, f2⟩ := rnew_run hN
  simp at h
  have T2 : Two H2 o q (min (max most 1) 32768) [] F1 E2 := ⟨g1.keeps k2, g2, ⟨by simp; omega, by omega, by simp⟩, fun p hp hE => by have := g1.lt hp; have := f2 p hE; omega⟩
  generalize hL : loopL _ _ _ _ _ _ = q2 at h
  obtain ⟨y, e3, H3, rfl, ⟨rfl, ks, F3, E3, T3⟩, fr⟩ := plays_loop0 (by omega) hfit hL T2 (by simp) (by simp) (by simp) (by simp)
  simp at h
  generalize hL : loopL _ _ _ _ _ _ = q2 at h
  obtain ⟨y, e4, H4, rfl, ⟨rfl, rfl⟩, fr4⟩ := plays_loop1 T3 (inp := inp) hL (by simp [fr]) (by simp [fr]) (by simp [fr]) (by simp)
  obtain ⟨v, hv, rv⟩ := inputs_run T3.ga T3.rt rfl
  obtain ⟨w, hw, rw'⟩ := rinputs_run T3.ra T3.rt rfl
  have hm := T3.rt.most
  have hl := T3.rt.le
  have hi := ints_run (rv H4) (rw' H4) (Nat.le_trans (insF_len _ _) (by omega))
  simp [fr, fr4, hv, hw, hi] at h
  rw [← h]
  exact back_bool

theorem AigPlays_law {a0 a1 a2 : AV} (y0 : TV Go.Proofs.Try.prog 8 3 a0) (y1 : TV Go.Proofs.Try.prog 8 37 a1) (y2 : TV Go.Proofs.Try.prog 8 22 a2) : ∃ H', R f_plaitlaw8_AigPlays [a0, a1, a2] H0 = some (.bool true, H') := by
  obtain ⟨n, rfl, -⟩ := tv_i64 Go.Proofs.Try.underlying3 y0
  obtain ⟨ss, rfl, hf⟩ := tv_steps (d := 5) y1
  obtain ⟨bs, rfl⟩ := tv_bools (d := 6) y2
  exact plays_run hf
end Go.Proofs.Ytphkkcocimmmfaa

/- And-inverter graphs: the statement AigMeans. -/
import Derived.Test.YtphkkcocimmmfaaAW5
namespace Go.Proofs.Ytphkkcocimmmfaa
set_option maxRecDepth 100000

def stepsC (ss : List Sp) : List AV := ss.flatMap Sp.av
theorem stepsC_len (ss : List Sp) : (stepsC ss).length = ss.length * 5 := by
  induction ss with
  | nil => rfl
  | cons s ss ih => simp [stepsC, Sp.av] at *; omega
theorem stepsC_at {ss : List Sp} : ∀ {i : Nat} {s : Sp}, ss[i]? = some s → ((stepsC ss).drop (i * 5)).take 5 = s.av ∧ (stepsC ss)[i * 5]? = some (.int .i64 s.what) ∧ i * 5 + 5 ≤ (stepsC ss).length := by
  induction ss with
  | nil => intro i s h; simp at h
  | cons x ss ih =>
    intro i s h
    cases i with
    | zero => simp at h; subst h; simp [stepsC, Sp.av]
    | succ i =>
      simp at h
      obtain ⟨h1, h2, h3⟩ := ih h
      rw [show (i + 1) * 5 = i * 5 + 5 from by omega]
      refine ⟨?_, ?_, ?_⟩
      · simpa [stepsC, Sp.av] using h1
      · simpa [stepsC, Sp.av] using h2
      · simp [stepsC, Sp.av] at h3 ⊢; omega

theorem insF_put (ks : Kd) : (insF (ks ++ [((0 : Int), (0 : Int))]) 0).length = (insF ks 0).length + 1 := by rw [insF_append]; simp

set_option maxHeartbeats 4000000 in
theorem means_loop0 {ss : List Sp} (hs : ss.length ≤ 120) {e : Env} {H : AHeap} {r : Rn} (hL : loopL Go.Proofs.Try.prog KT R l_plaitlaw8_AigMeans_0 e H = r) {o : Nat} {F : List Nat} (g : GAt H o 4000 [] F)
    (e0 : e 0 = some (.lst 5 ss.length (stepsC ss))) (e3 : e 3 = some (.ptr o 0)) (e4 : e 4 = some (.int .i64 0)) :
    ∃ x e' H', r = some (x, e', H') ∧ x = .exit 0 ∧ ∀ t, t ∉ defs l_plaitlaw8_AigMeans_0 → e' t = e t := by
  refine loop_count l_plaitlaw8_AigMeans_0.eq_1 hL ss.length (fun i e1 H1 => e1 4 = some (.int .i64 i) ∧ ∃ ks, (∃ F, GAt H1 o 4000 ks F) ∧ Rt 4000 ks ∧ (insF ks 0).length ≤ 6) (fun x _ _ => x = .exit 0) 0 (Nat.zero_le _)
    ⟨e4, [], ⟨F, g⟩, ⟨by decide, by decide, by simp⟩, by decide⟩ ?_ ?_
  · rintro i e1 H1 hf - hi ⟨f4, ks, ⟨F, g⟩, hr, hn⟩
    obtain ⟨s, hsi⟩ : ∃ s, ss[i]? = some s := ⟨ss[i], List.getElem?_eq_getElem hi⟩
    obtain ⟨b1, b2, b3⟩ := stepsC_at hsi
    have w1 : IntKind.i64.wrap ((i : Int) + 1) = (i : Int) + 1 := i64w (by omega) (by omega)
    have ci : (i : Int) < ss.length := by omega
    have hm := hr.most
    simp [hf, f4, e0, e3, ci, b1, b3, nodes_run g]
    generalize hN : R f_plaitlaw8_lits _ _ = q
    obtain ⟨H2, rfl, k2⟩ := (lits_run (s := s) (n := ks.length) (by omega) (by omega)).of hN
    have g2 := g.keeps k2
    simp [hf, f4, e0, e3, ci, b1, b3, k2.quiet]
    generalize hN : R f_plait_aig_Graph_Inputs _ _ = q
    obtain ⟨v, H3, rfl, k3, rd⟩ := inputs_run g2 hr hN
    have g3 := g2.keeps k3
    generalize litsF s ↑ks.length = abc
    obtain ⟨a, b, c⟩ := abc
    by_cases hskip : s.what = 0 ∧ 6 ≤ (insF ks 0).length
    · have c6 : (6 : Int) ≤ (insF ks 0).length := by omega
      simp [hf, f4, e0, e3, ci, b2, b3, rd.len, hskip.1, c6, w1]
      exact ⟨ks, ⟨F, g3⟩, hr, hn⟩
    have hcond : ¬ s.what = 0 ∨ ¬ (6 : Int) ≤ (insF ks 0).length := by
      by_cases h0 : s.what = 0
      · right; intro h6; exact hskip ⟨h0, by omega⟩
      · exact .inl h0
    have key : ∀ {r' : Option (AV × AHeap)}, R f_plaitlaw8_does [.ptr o 0, .int .i64 s.what, .int .i64 a, .int .i64 b, .int .i64 c] H3 = r' → Gv H3 o 4000 F (doesF 4000 ks s.what a b c) r' := fun h => does_run g3 hr h
    have hfit := hr.does s.what a b c
    have hins : (insF (doesF 4000 ks s.what a b c).ks 0).length ≤ 6 := by
      by_cases h0 : s.what = 0
      · rw [h0]
        simp only [doesF, if_true, putF]
        split
        · exact hn
        · rw [insF_put]
          rcases hcond with h | h
          · exact absurd h0 h
          · omega
      · rw [(Ands.does h0).ins]; exact hn
    have fin : ∀ (e2 : Env) (H2 : AHeap) F2, GAt H2 o 4000 (doesF 4000 ks s.what a b c).ks F2 → ∃ ks, (∃ F, GAt H2 o 4000 ks F) ∧ Rt 4000 ks ∧ (insF ks 0).length ≤ 6 := fun _ _ F2 h => ⟨_, ⟨F2, h⟩, hfit.rt, hins⟩
    by_cases h0 : s.what = 0
    · rcases hcond with h | c6
      · exact absurd h0 h
      rw [h0] at key fin b2
      simp [hf, f4, e0, e3, ci, b2, b3, rd.len, c6]
      generalize hN : R f_plaitlaw8_does _ _ = q
      obtain ⟨H4, F4, rfl, g4, m4⟩ := key hN
      by_cases he : (doesF 4000 ks 0 a b c).e = 0
      · simp [hf, f4, e0, e3, ci, b2, b3, he, w1]
        exact fin e1 H4 F4 g4
      · simp [hf, f4, e0, e3, ci, b2, b3, he, w1]
        exact fin e1 H4 F4 g4
    simp [hf, f4, e0, e3, ci, b2, b3, rd.len, h0]
    generalize hN : R f_plaitlaw8_does _ _ = q
    obtain ⟨H4, F4, rfl, g4, m4⟩ := key hN
    by_cases he : (doesF 4000 ks s.what a b c).e = 0
    rotate_left
    · simp [hf, f4, e0, e3, ci, b2, b3, he, w1]
      exact fin e1 H4 F4 g4
    by_cases h1 : s.what < 1
    · simp [hf, f4, e0, e3, ci, b2, b3, he, h1, w1]
      exact fin e1 H4 F4 g4
    by_cases h6 : 6 < s.what
    · simp [hf, f4, e0, e3, ci, b2, b3, he, h1, h6, w1]
      exact fin e1 H4 F4 g4
    simp [hf, f4, e0, e3, ci, b2, b3, he, h1, h6]
    generalize hL1 : loopL _ _ _ _ _ _ = q
    have hnn := (Ands.does (m := 4000) (ks := ks) (w := s.what) (a := a) (b := b) (c := c) h0).ins 0
    obtain ⟨y, e2, H5, rfl, ⟨rfl, k5⟩, fr⟩ := means_loop1 g4 hfit.rt (n := (insF ks 0).length) (i := i) (w := s.what) (a := a) (b := b) (c := c) (x := (doesF 4000 ks s.what a b c).l) hL1 hn (Keeps.refl H4) hi b3 b2
      (fun inp hinp => does_means hr h1 h6 he hinp) (by simp [hf, e0]) (by simp [hf, e3]) (by simp [f4]) (by simp) (by simp) (by simp) (by simp) (by simp) (by simp)
    simp [fr, f4, w1]
    exact fin e1 H5 F4 (g4.keeps k5)
  · rintro e1 H1 hf ⟨f4, ks, ⟨F, g⟩, hr, hn⟩
    simp [hf, f4, e0]

theorem means_run {ss : List Sp} {H : AHeap} : ∃ H', R f_plaitlaw8_AigMeans [.lst 5 ss.length (stepsC ss)] H = some (.bool true, H') := by
  generalize h : R f_plaitlaw8_AigMeans _ H = r
  rw [e_plaitlaw8_AigMeans] at h
  simp [c_plaitlaw8_AigMeans, (known_run (H := H)).run] at h
  by_cases hs : 120 < (ss.length : Int)
  · simp [hs] at h
    exact ⟨_, h.symm⟩
  simp [hs] at h
  generalize hN : R f_aig_New _ _ = q at h
  obtain ⟨H1, o, F, rfl, g1, k1, n1⟩ := new_run hN
  rw [show (min (max (4000 : Int) 1) 32768) = 4000 from by decide] at g1
  simp at h
  generalize hL : loopL _ _ _ _ _ _ = q at h
  obtain ⟨x, e', H', rfl, rfl, fr⟩ := means_loop0 (ss := ss) (by omega) hL g1 (by simp) (by simp) (by simp)
  simp at h
  exact ⟨_, h.symm⟩

end Go.Proofs.Ytphkkcocimmmfaa

/- Terms: light. -/
import Derived.Test.YtphkkcocimmmfaaTL
namespace Go.Proofs.Ytphkkcocimmmfaa
set_option maxRecDepth 100000
set_option maxHeartbeats 4000000

def NL (l : List Nd) : AV := .lst 11 l.length (flat l)
theorem light_loop {H : AHeap} {l : List Nd} {e : Env} {r : Rn} (hL : loopL Go.Proofs.Try.prog KT R l_plaitlaw3_light_0 e H = r)
    (e0 : e 0 = some (NL l)) (e3 : e 3 = some (.int .i64 0)) :
    ∃ y e' H', r = some (y, e', H') ∧ (H' = H ∧ (y = .exit 0 ∨ (y = .ret ∧ e' 2 = some (.bool false)))) ∧ ∀ t, t ∉ defs l_plaitlaw3_light_0 → e' t = e t := by
  obtain ⟨N, hN⟩ : ∃ N : Nat, N = 201 := ⟨_, rfl⟩
  refine loop_rule l_plaitlaw3_light_0.eq_1 hL (fun i e1 H1 => ∃ j : Nat, j + i = N ∧ e1 3 = some (.int .i64 j) ∧ H1 = H) _ N ⟨0, by omega, e3, rfl⟩ ?_
  rintro i f H1 hf ⟨j, hj, f3, rfl⟩
  have w1 : IntKind.i64.wrap ((j : Int) + 1) = (j : Int) + 1 := i64w (by omega) (by omega)
  have hfl := flat_len l
  by_cases c1 : j < l.length
  · have c1' : (j : Int) < l.length := by omega
    by_cases c2 : j ≤ 200
    · have c2' : (j : Int) ≤ 200 := by omega
      obtain ⟨n, hn⟩ : ∃ n, l[j]? = some n := ⟨l[j], by simp [c1]⟩
      have hat : (flat l)[j * 11 + 8 + 2]? = some (.str n.name) := by
        rw [show j * 11 + 8 + 2 = j * 11 + 10 from by omega, flat_get hn (by omega)]; rfl
      by_cases c3 : (100 : Int) < n.name.size
      · simp (maxDischargeDepth := 40) (maxSteps := 1000000) [hf, NL, e0, f3, c1', c2', hat, c3]
      · simp (maxDischargeDepth := 40) (maxSteps := 1000000) [hf, NL, e0, f3, c1', c2', hat, c3, w1]
        exact ⟨i - 1, by omega, j + 1, by omega, by omega⟩
    · have c2' : ¬ (j : Int) ≤ 200 := by omega
      simp (maxDischargeDepth := 40) (maxSteps := 1000000) [hf, NL, e0, f3, c1', c2']
  · have c1' : ¬ (j : Int) < l.length := by omega
    simp (maxDischargeDepth := 40) (maxSteps := 1000000) [hf, NL, e0, f3, c1']
/-- A list that is light has at most 200 nodes. -/
theorem light_run {H : AHeap} {l : List Nd} : ∃ b, R f_plaitlaw3_light [NL l] H = some (.bool b, H) ∧ (b = true → l.length ≤ 200) := by
  generalize h : R f_plaitlaw3_light [NL l] H = r
  rw [e_plaitlaw3_light] at h
  simp (maxDischargeDepth := 40) [c_plaitlaw3_light] at h
  generalize hL : loopL _ _ _ _ _ _ = q at h
  obtain ⟨y, e1, H1, rfl, ⟨rfl, hy⟩, fr⟩ := light_loop (l := l) hL (by simp) (by simp)
  rcases hy with rfl | ⟨rfl, h2⟩
  · by_cases c : (l.length : Int) ≤ 200
    · simp (maxDischargeDepth := 40) [fr, NL, c] at h
      exact ⟨true, h.symm, fun _ => by omega⟩
    · simp (maxDischargeDepth := 40) [fr, NL, c] at h
      exact ⟨false, h.symm, fun h => by cases h⟩
  · simp (maxDischargeDepth := 40) [h2] at h
    exact ⟨false, h.symm, fun h => by cases h⟩
end Go.Proofs.Ytphkkcocimmmfaa

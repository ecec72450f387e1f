/- And-inverter graphs: the statement AigTurns. -/
import Derived.Test.YtphkkcocimmmfaaAW6
import Derived.Test.YtphkkcocimmmfaaAM3
import Derived.Test.YtphkkcocimmmfaaAML
namespace Go.Proofs.Ytphkkcocimmmfaa
set_option maxRecDepth 100000

set_option maxHeartbeats 2000000 in
theorem turns_loop {ss : List Sp} (hs : ss.length ≤ 120) {e : Env} {H : AHeap} {r : Rn} (hL : loopL Go.Proofs.Try.prog KT R l_plaitlaw8_AigTurns_0 e H = r) {o : Nat} {F : List Nat} (g : GAt H o 4000 [] F)
    (e0 : e 0 = some (.lst 5 ss.length (stepsC ss))) (e9 : e 9 = some (.ptr o 0)) (e10 : e 10 = some (.int .i64 0)) :
    ∃ x e' H', r = some (x, e', H') ∧ (x = .exit 0 ∧ ∃ ks, (∃ F, GAt H' o 4000 ks F) ∧ Rt 4000 ks ∧ ks.length ≤ 360) ∧ ∀ t, t ∉ defs l_plaitlaw8_AigTurns_0 → e' t = e t := by
  refine loop_count l_plaitlaw8_AigTurns_0.eq_1 hL ss.length (fun i e1 H1 => e1 10 = some (.int .i64 i) ∧ ∃ ks, (∃ F, GAt H1 o 4000 ks F) ∧ Rt 4000 ks ∧ ks.length ≤ 3 * i) _ 0 (Nat.zero_le _)
    ⟨e10, [], ⟨F, g⟩, ⟨by decide, by decide, by simp⟩, by decide⟩ ?_ ?_
  · rintro i e1 H1 hf - hi ⟨f10, ks, ⟨F, g⟩, hr, hn⟩
    obtain ⟨s, hsi⟩ : ∃ s, ss[i]? = some s := ⟨ss[i], List.getElem?_eq_getElem hi⟩
    obtain ⟨b1, b2, b3⟩ := stepsC_at hsi
    have w1 : IntKind.i64.wrap ((i : Int) + 1) = (i : Int) + 1 := i64w (by omega) (by omega)
    have ci : (i : Int) < ss.length := by omega
    have hm := hr.most
    simp [hf, f10, e0, e9, ci, b1, b3, nodes_run g]
    generalize hN : R f_plaitlaw8_lits _ _ = q
    obtain ⟨H2, rfl, k2⟩ := (lits_run (s := s) (n := ks.length) (by omega) (by omega)).of hN
    have g2 := g.keeps k2
    generalize litsF s ↑ks.length = abc
    obtain ⟨a, b, c⟩ := abc
    simp [hf, f10, e0, e9, ci, b2, b3, k2.quiet]
    generalize hN : R f_plaitlaw8_does _ _ = q
    obtain ⟨H3, F3, rfl, g3, m3⟩ := does_run g2 hr hN
    simp [f10, w1]
    have := does_len 4000 ks s.what a b c
    exact ⟨_, ⟨F3, g3⟩, (hr.does ..).rt, by omega⟩
  · rintro e1 H1 hf ⟨f10, ks, ⟨F, g⟩, hr, hn⟩
    simp [hf, f10, e0]
    exact ⟨ks, ⟨F, g⟩, hr, by omega⟩

set_option maxHeartbeats 2000000 in
theorem turns_run {ss : List Sp} {i j k : Int} {H : AHeap} : ∃ H', R f_plaitlaw8_AigTurns [.lst 5 ss.length (stepsC ss), .int .i64 i, .int .i64 j, .int .i64 k] H = some (.bool true, H') := by
  generalize h : R f_plaitlaw8_AigTurns _ H = r
  rw [e_plaitlaw8_AigTurns] at h
  simp [c_plaitlaw8_AigTurns, (known_run (H := H)).run] at h
  by_cases hs : 120 < (ss.length : Int)
  · simp [hs] at h
    exact ⟨_, h.symm⟩
  simp [hs] at h
  generalize hN : R f_aig_New _ _ = q at h
  obtain ⟨H1, o, F, rfl, g1, k1, n1⟩ := new_run hN
  rw [show (min (max (4000 : Int) 1) 32768) = 4000 from by decide] at g1
  simp at h
  generalize hL : loopL _ _ _ _ _ _ = q at h
  obtain ⟨x, e', H2, rfl, ⟨rfl, ks, ⟨F, g⟩, hr, hn⟩, fr⟩ := turns_loop (ss := ss) (by omega) hL g1 (by simp) (by simp) (by simp)
  have w1 : IntKind.i64.wrap (2 * (ks.length : Int)) = 2 * (ks.length : Int) := i64w (by omega) (by omega)
  have w2 : IntKind.i64.wrap (2 * (ks.length : Int) + 2) = 2 * (ks.length : Int) + 2 := i64w (by omega) (by omega)
  have hp := fun k => placeF_in (k := k) (n := 2 * (ks.length : Int) + 2) (by omega)
  have hpl := fun k H => place_run (k := k) (n := 2 * (ks.length : Int) + 2) (by omega) (by omega) (H := H)
  have hl : ∀ k, isL ks.length (placeF k (2 * (ks.length : Int) + 2)) := fun k => by rw [isL_lt]; exact hp k
  simp [fr, nodes_run g, w1, w2, hpl] at h
  obtain ⟨eA, eO, eX, eM, rA, rO, rX, rM, qA, qO, qX, qM, v, qv, fv, lv⟩ := turns hr (hl i) (hl j) (hl k) (by omega)
  have ia := isL_i64 hr (hl i)
  have ib := isL_i64 hr (hl j)
  have ic := isL_i64 hr (hl k)
  have iv := isL_i64 rM lv
  generalize placeF i (2 * (ks.length : Int) + 2) = a at *
  generalize placeF j (2 * (ks.length : Int) + 2) = b at *
  generalize placeF k (2 * (ks.length : Int) + 2) = c at *
  generalize hN : R f_plait_aig_Graph_And _ _ = q at h
  obtain ⟨H3, F3, rfl, g3, m3⟩ := and_run g hr hN
  simp [fr] at h
  generalize hN : R f_plait_aig_Graph_Or _ _ = q at h
  obtain ⟨H4, F4, rfl, g4, m4⟩ := or_run g3 rA hN
  simp [fr] at h
  generalize hN : R f_plait_aig_Graph_Xor _ _ = q at h
  obtain ⟨H5, F5, rfl, g5, m5⟩ := xor_run g4 rO hN
  simp [fr] at h
  generalize hN : R f_plait_aig_Graph_Mux _ _ = q at h
  obtain ⟨H6, F6, rfl, g6, m6⟩ := mux_run g5 rX hN
  have z0 : IntKind.i64.wrap 0 = 0 := by decide
  simp [fr, eA, eO, eX, eM, z0, nodes_run g6] at h
  generalize hN : R f_plait_aig_Graph_And _ _ = q at h
  obtain ⟨H7, F7, rfl, g7, m7⟩ := and_run g6 rM hN
  rw [qA] at g7 h
  simp [fr] at h
  generalize hN : R f_plait_aig_Graph_Or _ _ = q at h
  obtain ⟨H8, F8, rfl, g8, m8⟩ := or_run g7 rM hN
  simp only at g8 h
  rw [qO] at g8 h
  simp [fr] at h
  generalize hN : R f_plait_aig_Graph_Xor _ _ = q at h
  obtain ⟨H9, F9, rfl, g9, m9⟩ := xor_run g8 rM hN
  simp only at g9 h
  rw [qX] at g9 h
  simp [fr, ic.1, ic.2] at h
  generalize hN : R f_plait_aig_Graph_Mux _ _ = q at h
  obtain ⟨H10, F10, rfl, g10, m10⟩ := mux_run g9 rM hN
  simp only at g10 h
  rw [qM] at g10 h
  simp [fr, ia.1, ia.2, ib.1, ib.2] at h
  generalize hN : R f_plait_aig_Graph_And _ _ = q at h
  obtain ⟨H11, F11, rfl, g11, m11⟩ := and_run g10 rM hN
  simp only at g11 h
  rw [qv] at g11 h
  simp [fr, iv.1, iv.2, fv, nodes_run g11] at h
  exact ⟨_, h.symm⟩

theorem AigTurns_law {a0 a1 a2 a3 : AV} (y0 : TV Go.Proofs.Try.prog 8 37 a0) (y1 : TV Go.Proofs.Try.prog 8 3 a1) (y2 : TV Go.Proofs.Try.prog 8 3 a2) (y3 : TV Go.Proofs.Try.prog 8 3 a3) : ∃ H', R f_plaitlaw8_AigTurns [a0, a1, a2, a3] H0 = some (.bool true, H') := by
  obtain ⟨ss, rfl⟩ := tv_steps (d := 5) y0
  obtain ⟨i, rfl, -⟩ := tv_i64 (d := 7) Go.Proofs.Try.underlying3 y1
  obtain ⟨j, rfl, -⟩ := tv_i64 (d := 7) Go.Proofs.Try.underlying3 y2
  obtain ⟨k, rfl, -⟩ := tv_i64 (d := 7) Go.Proofs.Try.underlying3 y3
  exact turns_run
end Go.Proofs.Ytphkkcocimmmfaa

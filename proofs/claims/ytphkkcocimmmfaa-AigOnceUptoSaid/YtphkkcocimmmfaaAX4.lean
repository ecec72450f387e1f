/- And-inverter graphs: the statements' own known. -/
import Derived.Test.YtphkkcocimmmfaaAX3
namespace Go.Proofs.Ytphkkcocimmmfaa
set_option maxRecDepth 100000

theorem RetI.all {H : AHeap} {f : FuncId} {vs : List AV} {l : List Int} (h : ∀ H', Keeps H H' → RetI H' l (R f vs H')) : ∃ V : AHeap → AV, (∀ H', Keeps H H' → R f vs H' = some (V H', H')) ∧ ∀ A H', Keeps H A → Reads H' (V A) 1 l.length (l.map (.int .i64)) := by
  refine ⟨fun H' => ((R f vs H').getD (.nils, H')).1, fun H' k => ?_, fun A H' k => ?_⟩
  · obtain ⟨v, e, -⟩ := h H' k
    simp only [e, Option.getD_some]
  · obtain ⟨v, e, rd⟩ := h A k
    simp only [e, Option.getD_some]
    exact rd H'

set_option maxHeartbeats 4000000 in
theorem known_run {H : AHeap} : R f_plaitlaw8_known [] H = some (.bool true, H) := by
  generalize h : R f_plaitlaw8_known [] H = r
  rw [e_plaitlaw8_known] at h
  simp [c_plaitlaw8_known] at h
  generalize hN : R f_aig_New _ _ = q at h
  obtain ⟨H0, o, F0, rfl, g0, k0, n0⟩ := new_run hN
  rw [show (min (max (50 : Int) 1) 32768) = 50 from by decide] at g0
  simp at h
  have r0 : Rt 50 [] := ⟨by decide, by decide, by simp⟩
  generalize hN : R f_plait_aig_Graph_Input _ _ = q at h
  obtain ⟨H1, F1, rfl, g1, m1⟩ := input_run g0 r0 hN
  have r1 := (r0.put (k := (0, 0)) (by simp)).rt
  rw [show putF 50 [] (0, 0) = ⟨2, 0, [(0, 0)]⟩ from rfl] at g1 h r1
  simp at h
  generalize hN : R f_plait_aig_Graph_Input _ _ = q at h
  obtain ⟨H2, F2, rfl, g2, m2⟩ := input_run g1 r1 hN
  have r2 := (r1.put (k := (0, 0)) (by simp)).rt
  simp only at g2 h r2
  rw [show putF 50 [(0, 0)] (0, 0) = ⟨4, 0, [(0, 0), (0, 0)]⟩ from rfl] at g2 h r2
  simp at h
  generalize hN : R f_plait_aig_Graph_And _ _ = q at h
  obtain ⟨H3, F3, rfl, g3, m3⟩ := and_run g2 r2 hN
  have r3 := (r2.and 4 2).rt
  simp only at g3 h r3
  rw [show andF 50 [(0, 0), (0, 0)] 4 2 = ⟨6, 0, [(0, 0), (0, 0), (2, 4)]⟩ from rfl] at g3 h r3
  simp at h
  generalize hN : R f_plait_aig_Graph_And _ _ = q at h
  obtain ⟨H4, F4, rfl, g4, m4⟩ := and_run g3 r3 hN
  have r4 := (r3.and 2 3).rt
  simp only at g4 h r4
  rw [show andF 50 [(0, 0), (0, 0), (2, 4)] 2 3 = ⟨0, 0, [(0, 0), (0, 0), (2, 4)]⟩ from rfl] at g4 h r4
  simp at h
  generalize hN : R f_plait_aig_Graph_Or _ _ = q at h
  obtain ⟨H5, F5, rfl, g5, m5⟩ := or_run g4 r4 hN
  have r5 := (r4.or 2 4).rt
  simp only at g5 h r5
  rw [show orF 50 [(0, 0), (0, 0), (2, 4)] 2 4 = ⟨9, 0, [(0, 0), (0, 0), (2, 4), (3, 5)]⟩ from rfl] at g5 h r5
  simp at h
  generalize hN : R f_plait_aig_Graph_Xor _ _ = q at h
  obtain ⟨H6, F6, rfl, g6, m6⟩ := xor_run g5 r5 hN
  have r6 := (r5.xor 2 4).rt
  simp only at g6 h r6
  rw [show xorF 50 [(0, 0), (0, 0), (2, 4), (3, 5)] 2 4 = ⟨15, 0, [(0, 0), (0, 0), (2, 4), (3, 5), (2, 5), (3, 4), (11, 13)]⟩ from rfl] at g6 h r6
  simp at h
  generalize hN : R f_plait_aig_Graph_And _ _ = q at h
  obtain ⟨H7, F7, rfl, g7, m7⟩ := and_run g6 r6 hN
  simp only at g7 h
  rw [show andF 50 [(0, 0), (0, 0), (2, 4), (3, 5), (2, 5), (3, 4), (11, 13)] 2 99 = ⟨0, 80, [(0, 0), (0, 0), (2, 4), (3, 5), (2, 5), (3, 4), (11, 13)]⟩ from rfl] at g7 h
  have mv : Mv F0 H0 F7 H7 := (((((m1.trans m2).trans m3).trans m4).trans m5).trans m6).trans m7
  have k7 : Keeps H H7 := mv.fr.keeps k0 n0
  simp at h
  generalize hN : R f_plait_aig_Graph_Eval _ _ = q at h
  have g8 := g7.keeps (Keeps.new H7 (.cells [.bool true, .bool false]))
  obtain rfl := eval_run g8 r6 (inp := [true, false]) (Reads.row' (all := [.bool true, .bool false]) (by simp) (by simp) (by simp)) hN
  rw [show evalF [(0, 0), (0, 0), (2, 4), (3, 5), (2, 5), (3, 4), (11, 13)] 15 [true, false] = (true, 0) from rfl] at h
  simp at h
  have hk := fun H' (k : Keeps H7 H') => (kids_run (g7.keeps k) r6 (n := 3))
  rw [show kidsF [(0, 0), (0, 0), (2, 4), (3, 5), (2, 5), (3, 4), (11, 13)] 3 = (2, 4, true) from rfl] at hk
  unfold Pure at hk
  have hn := fun H' (k : Keeps H7 H') => (nodes_run (g7.keeps k))
  unfold Pure at hn
  obtain ⟨V, hV, rV⟩ := RetI.all fun H' (k : Keeps H7 H') => inputs_run (g7.keeps k) r6 rfl
  obtain ⟨W, hW, rW⟩ := RetI.all fun H' (k : Keeps H7 H') => cone_run (g7.keeps k) r6 (l := 9) rfl
  rw [show insF [(0, 0), (0, 0), (2, 4), (3, 5), (2, 5), (3, 4), (11, 13)] 0 = [2, 4] from rfl] at rV
  rw [show coneF [(0, 0), (0, 0), (2, 4), (3, 5), (2, 5), (3, 4), (11, 13)] 9 = [1, 2, 4] from rfl] at rW
  have hI : ∀ A H' p, Keeps H7 A → p < H'.size → H'.obj p = .cells [.int .i64 2, .int .i64 4] → R f_plaithelp_Ints [V A, .row p 0 1 2 true] H' = some (.bool true, H') := fun A H' p k hp ho =>
    ints_run (rV A H' k) (b := [2, 4]) (Reads.row' (all := [.int .i64 2, .int .i64 4]) hp ho (by simp)) (by decide)
  have hJ : ∀ A H' p, Keeps H7 A → p < H'.size → H'.obj p = .cells [.int .i64 1, .int .i64 2, .int .i64 4] → R f_plaithelp_Ints [W A, .row p 0 1 3 true] H' = some (.bool true, H') := fun A H' p k hp ho =>
    ints_run (rW A H' k) (b := [1, 2, 4]) (Reads.row' (all := [.int .i64 1, .int .i64 2, .int .i64 4]) hp ho (by simp)) (by decide)
  simp (maxDischargeDepth := 40) (maxSteps := 1000000) [hk, hn, hV, hW, hI, hJ, k7] at h
  exact h.symm
end Go.Proofs.Ytphkkcocimmmfaa

/- The chapter's examples of the evaluator hold. -/
import Derived.Test.YtiaoojghohfkjaaEM
namespace Go.Proofs.Ytiaoojghohfkjaa
set_option maxRecDepth 100000
set_option maxHeartbeats 4000000

theorem known4_run {H : AHeap} : R f_plaitlaw4_known [] H = some (.bool true, H) := by
  generalize h : R f_plaitlaw4_known [] H = r
  rw [e_plaitlaw4_known] at h
  simp (maxDischargeDepth := 40) [c_plaitlaw4_known] at h
  generalize hN : R f_term_New _ _ = q at h
  obtain ⟨H1, g, F1, rfl, g1, k1, f1⟩ := tnew_run hN
  rw [show min (max (9 : Int) 1) 4096 = 9 from by decide] at g1
  simp (maxDischargeDepth := 40) at h
  generalize hN : R f_plait_term_Graph_Make _ _ = q at h
  obtain ⟨H2, F2, rfl, g2, m2⟩ := GvT.go (n := kX) g1 kmk1 hN
  simp (maxDischargeDepth := 40) at h
  generalize hN : R f_plait_term_Graph_Make _ _ = q at h
  obtain ⟨H3, F3, rfl, g3, m3⟩ := GvT.go (n := kA) g2 kmk2 hN
  simp (maxDischargeDepth := 40) at h
  generalize hN : R f_plait_term_Graph_Make _ _ = q at h
  obtain ⟨H4, F4, rfl, g4, m4⟩ := GvT.go (n := kU) g3 kmk3 hN
  have gok : Gok [kX, kA', kU] := by
    have a1 := Gok.nil.make (most := 9) (n := kX)
    rw [kmk1] at a1
    have a2 := a1.make (most := 9) (n := kA)
    rw [kmk2] at a2
    have a3 := a2.make (most := 9) (n := kU)
    rw [kmk3] at a3
    exact a3
  have kH : Keeps H H4 := (m2.trans (m3.trans m4)).fr.keeps k1 f1
  obtain ⟨K, hK⟩ : ∃ K, K = H4.new (.cells [.str ⟨#[120]⟩, .int .i64 4, u 9#64, u 0#64]) := ⟨_, rfl⟩
  have k4 : Keeps H4 K := by rw [hK]; exact Keeps.new _ _
  have zK : H4.size < K.size := by rw [hK]; simp
  have oK : K.obj H4.size = .cells (flatN kN) := by rw [hK]; simp; rfl
  have hrn : ∀ H', Keeps K H' → RN H' (.row H4.size 0 4 1 true) kN := fun H' k => (Reads.row' zK oK rfl).keep k
  have hE : ∀ H', Keeps K H' → ∀ (id : Int) (v : Vl) (e : Int), worthS (lookL kN) [kX, kA', kU] id = (v, e) → R f_eval_Eval [.ptr g 0, .int .i64 id, .row H4.size 0 4 1 true] H' = some (.tup [v.av, .int .i64 e], H') := fun H' k id v e hw => by
    have := eval_run (g4.keeps (k4.trans k)) gok (hrn H' k) (by simp [kN]) (id := id)
    rw [hw] at this
    exact this
  have e2 := fun H' k => hE H' k 2 _ _ kv2
  have e3 := fun H' k => hE H' k 3 _ _ kv3
  have e4 := fun H' k => hE H' k 4 _ _ kv4
  have e5 : ∀ H', Keeps K H' → R f_eval_Eval [.ptr g 0, .int .i64 3, .nils] H' = some (.tup [(⟨0, 0#128⟩ : Vl).av, .int .i64 41], H') := fun H' k => by
    have := eval_run (g4.keeps (k4.trans k)) gok (s := .nils) (env := []) Reads.nils (by simp) (id := 3)
    rw [kv5] at this
    exact this
  have ap : ∀ H' o, o < H'.size → H'.obj o = .cells [.int .i64 0, u 1#64, u 0#64, .int .i64 2, u 3#64, u 0#64, .int .i64 2, u 0#64, u 0#64] → R f_eval_Apply [.int .i64 9, .int .i64 0, .int .i64 0, .row o 0 3 3 true] H' = some (.tup [(⟨2, 3#128⟩ : Vl).av, .int .i64 0], H') := fun H' o ho ob => by
    have := apply_run (op := 9) (p := 0) (q := 0) (H := H') (s := .row o 0 3 3 true) (l := [⟨0, 1#128⟩, ⟨2, 3#128⟩, ⟨2, 0#128⟩]) (Reads.row' ho (by rw [ob]; rfl) rfl) (by simp)
    rw [ka1] at this
    exact this
  have al : ∃ A : AHeap × Nat → AV, ∀ x : AHeap × Nat, (Keeps K x.1 ∧ x.2 < x.1.size ∧ x.1.obj x.2 = .cells [.int .i64 1, .int .i64 2]) → R f_eval_All [.ptr g 0, .row x.2 0 1 2 true, .row H4.size 0 4 1 true] x.1 = some (.tup [A x, .int .i64 0], x.1) ∧ sliceLen (A x) = some 2 := by
    refine choose_on AV.nils (Q := fun x : AHeap × Nat => Keeps K x.1 ∧ x.2 < x.1.size ∧ x.1.obj x.2 = .cells [.int .i64 1, .int .i64 2]) (P := fun x v => R f_eval_All [.ptr g 0, .row x.2 0 1 2 true, .row H4.size 0 4 1 true] x.1 = some (.tup [v, .int .i64 0], x.1) ∧ sliceLen v = some 2) ?_
    rintro ⟨H', o⟩ ⟨k, ho, ob⟩
    simp only at k ho ob ⊢
    rcases all_run (g4.keeps (k4.trans k)) gok (hrn H' k) (by simp [kN]) (ids := [1, 2]) (t := .row o 0 1 2 true) (RI.row ho (by rw [ob]; rfl) rfl) (by simp) with ⟨-, v, h1, h2⟩ | ⟨i, x, h1, h2, h3, -⟩
    · exact ⟨v, h1, (h2 H').len⟩
    · exfalso
      have hx : x ∈ [(1 : Int), 2] := List.mem_of_getElem? h2
      simp at hx
      rcases hx with rfl | rfl
      · exact h3 (by rw [kv1])
      · exact h3 (by rw [kv2])
  obtain ⟨A, hA⟩ := al
  have hA1 : ∀ H' o, Keeps K H' → o < H'.size → H'.obj o = .cells [.int .i64 1, .int .i64 2] → R f_eval_All [.ptr g 0, .row o 0 1 2 true, .row H4.size 0 4 1 true] H' = some (.tup [A (H', o), .int .i64 0], H') := fun H' o k ho ob => (hA (H', o) ⟨k, ho, ob⟩).1
  have hA2 : ∀ H' o, Keeps K H' → o < H'.size → H'.obj o = .cells [.int .i64 1, .int .i64 2] → sliceLen (A (H', o)) = some 2 := fun H' o k ho ob => (hA (H', o) ⟨k, ho, ob⟩).2
  have co : ∃ C : AHeap → AV, ∀ H', Keeps K H' → R f_eval_Complete [.ptr g 0, .nils] H' = some (C H', H') ∧ ∀ H2, RN H2 (C H') [⟨⟨#[120]⟩, ⟨4, 0#128⟩⟩] := by
    refine choose_on AV.nils (Q := fun H' => Keeps K H') (P := fun H' v => R f_eval_Complete [.ptr g 0, .nils] H' = some (v, H') ∧ ∀ H2, RN H2 v [⟨⟨#[120]⟩, ⟨4, 0#128⟩⟩]) fun H' k => ?_
    obtain ⟨v, h1, h2⟩ := complete_run (g4.keeps (k4.trans k)) (s := .nils) (env := []) Reads.nils (by simp)
    rw [show ([kX, kA', kU] : List Nd).length = 3 from rfl, kf1] at h2
    exact ⟨v, h1, h2⟩
  obtain ⟨C, hC⟩ := co
  have hC1 := fun H' k => (hC H' k).1
  have hC2 : ∀ H' H2 o, Keeps K H' → o < H2.size → H2.obj o = .cells [.str ⟨#[120]⟩, .int .i64 4, u 0#64, u 0#64] → R f_plaithelp_Named [C H', .row o 0 4 1 true] H2 = some (.bool true, H2) := fun H' H2 o k ho ob => by
    have := named_run ((hC H' k).2 H2) (w := .row o 0 4 1 true) (b := [⟨⟨#[120]⟩, ⟨4, 0#128⟩⟩]) (Reads.row' ho (by rw [ob]; rfl) rfl) (by simp)
    rw [this]; simp
  simp (maxDischargeDepth := 40) at h
  rw [← hK] at h
  have zl : H4.size + 1 = K.size := by rw [hK]; rfl
  have k5 := kH.trans k4
  have z5 : H.size ≤ K.size := k5.size
  have l0 : lo 0#128 = 0#64 := by decide
  have l0' : hi 0#128 = 0#64 := by decide
  have l2 : lo 2#128 = 2#64 := by decide
  have l2' : hi 2#128 = 0#64 := by decide
  have l3 : lo 3#128 = 3#64 := by decide
  have l3' : hi 3#128 = 0#64 := by decide
  simp (maxDischargeDepth := 40) (maxSteps := 4000000) [e2, e3, e4, e5, ap, hA1, hA2, hC1, hC2, k5, z5, l0, l0', l2, l2', l3, l3'] at h
  exact h.symm
end Go.Proofs.Ytiaoojghohfkjaa

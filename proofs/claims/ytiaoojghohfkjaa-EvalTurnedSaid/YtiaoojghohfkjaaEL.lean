/- The law's graphs: both of a script of nodes. -/
import Derived.Test.YtiaoojghohfkjaaEK
import Derived.Test.YtiaoojghohfkjaaTW
namespace Go.Proofs.Ytiaoojghohfkjaa
set_option maxRecDepth 100000
set_option maxHeartbeats 4000000

theorem makT_len {most : Int} {ns : List Nd} {n : Nd} : (makT most ns n).1.length ≤ ns.length + 1 := by
  unfold makT
  repeat' split
  all_goals simp
theorem made_loop {H0 H : AHeap} {g q : Nat} {l : List Nd} {F E : List Nat} (hl : l.length ≤ 120) (T : Two H0 H g q 4096 [] F E) {e : Env} {r : Rn} (hL : loopL Go.Proofs.Try.prog KT R l_plaitlaw4_made_0 e H = r)
    (e0 : e 0 = some (NL l)) (e5 : e 5 = some (.ptr g 0)) (e6 : e 6 = some (.ptr q 0)) (e7 : e 7 = some (.int .i64 0)) :
    ∃ y e' H', r = some (y, e', H') ∧ (Keeps H0 H' ∧ ((y = .exit 0 ∧ ∃ ns F E, Two H0 H' g q 4096 ns F E ∧ Gok ns ∧ ns.length ≤ l.length) ∨ (y = .ret ∧ e' 2 = some .nilp ∧ e' 3 = some .nilp ∧ e' 4 = some (.bool false)))) ∧ ∀ t, t ∉ defs l_plaitlaw4_made_0 → e' t = e t := by
  refine loop_count l_plaitlaw4_made_0.eq_1 hL l.length (fun i e1 H1 => e1 7 = some (.int .i64 i) ∧ ∃ ns F E, Two H0 H1 g q 4096 ns F E ∧ Gok ns ∧ ns.length ≤ i) _ 0 (by omega) ⟨e7, [], F, E, T, Gok.nil, Nat.le_refl _⟩ ?_ ?_
  · rintro i f H1 hf - hi ⟨f7, ns, F1, E1, T1, gok, hnl⟩
    have w1 : IntKind.i64.wrap ((i : Int) + 1) = (i : Int) + 1 := i64w (by omega) (by omega)
    have c1 : (i : Int) < l.length := by omega
    obtain ⟨n, hn⟩ : ∃ n, l[i]? = some n := ⟨l[i], by simp [hi]⟩
    have hat := flat_at hn
    have hfl := flat_len l
    have hle : i * 11 + 11 ≤ l.length * 11 := by omega
    have hle10 : i * 11 + 10 < l.length * 11 := by omega
    have hat10 : (flat l)[i * 11 + 8 + 2]? = some (.str n.name) := by
      rw [show i * 11 + 8 + 2 = i * 11 + 10 from by omega, flat_get hn (by omega)]; rfl
    have kp := T1.kp
    by_cases c2 : (100 : Int) < n.name.size
    · simp (maxDischargeDepth := 40) [hf, NL, e0, f7, c1, hat10, c2]
      exact kp
    · simp (maxDischargeDepth := 40) [hf, NL, e0, e5, f7, c1, hfl, hle, hat, hat10, c2]
      generalize hN : R f_plait_term_Graph_Make _ _ = qq
      obtain ⟨js, x, er, hmk⟩ : ∃ js x er, makT 4096 ns n = (js, x, er) := ⟨_, _, _, rfl⟩
      have gk : Gok js := by have := gok.make (most := 4096) (n := n); rw [hmk] at this; exact this
      have hjl : js.length ≤ ns.length + 1 := by have := makT_len (most := 4096) (ns := ns) (n := n); rw [hmk] at this; exact this
      obtain ⟨H2, F2, rfl, g2, m2⟩ := GvT.go T1.gt hmk hN
      simp (maxDischargeDepth := 40) [hf, NL, e0, e6, f7, c1, hfl, hle, hat]
      generalize hN2 : R f_plait_plaitref3_Graph_Make _ _ = qq
      have G1 : GR H2 q 4096 ns E1 := T1.gr.same m2.fr.size fun p hp => m2.fr.obj p (T1.gr.lt p hp) (fun h => T1.dj p h hp)
      obtain ⟨H3, E3, rfl, g3, m3⟩ := rmk_run G1 hN2
      rw [hmk] at g3
      rw [hmk]
      have T3 := T1.make g2 m2 g3 m3
      simp (maxDischargeDepth := 40) [f7, w1]
      exact ⟨js, ⟨F2, E3, T3⟩, gk, by omega⟩
  · rintro f H1 hf ⟨f7, ns, F1, E1, T1, gok, hnl⟩
    simp [hf, NL, f7, e0]
    exact ⟨T1.kp, ns, ⟨F1, E1, T1⟩, gok, by omega⟩
theorem made_run {H : AHeap} {l : List Nd} {r : Option (AV × AHeap)} (h : R f_plaitlaw4_made [NL l] H = r) :
    r = some (.tup [.nilp, .nilp, .bool false], H) ∨ ∃ g q ns F E H', r = some (.tup [.ptr g 0, .ptr q 0, .bool true], H') ∧ Two H H' g q 4096 ns F E ∧ Gok ns ∧ ns.length ≤ 120 := by
  rw [e_plaitlaw4_made] at h
  by_cases c1 : (120 : Int) < l.length
  · simp (maxDischargeDepth := 40) [c_plaitlaw4_made, NL, c1] at h
    exact .inl h.symm
  · have hl : l.length ≤ 120 := by omega
    simp (maxDischargeDepth := 40) [c_plaitlaw4_made, NL, c1] at h
    generalize hN : R f_term_New _ _ = q at h
    obtain ⟨H1, g, F1, rfl, g1, k1, f1⟩ := tnew_run hN
    simp (maxDischargeDepth := 40) at h
    generalize hN : R f_plaitref3_New _ _ = q at h
    obtain ⟨H2, q, E2, rfl, g2, k2, f2⟩ := rnew_run hN
    simp (maxDischargeDepth := 40) at h
    have T2 : Two H H2 g q 4096 [] F1 E2 := ⟨g1.keeps k2, g2, k1.trans k2, f1, fun p hp => Nat.le_trans k1.size (f2 p hp), fun p hp hE => by have := g1.lt p hp; have := f2 p hE; omega⟩
    generalize hL : loopL _ _ _ _ _ _ = q2 at h
    obtain ⟨y, e3, H3, rfl, ⟨k3, hy⟩, fr⟩ := made_loop hl T2 hL (by simp [NL]) (by simp) (by simp) (by simp)
    rcases hy with ⟨rfl, ns, F3, E3, T3, gok, hnl⟩ | ⟨rfl, a2, a3, a4⟩
    · right
      simp (maxDischargeDepth := 40) [fr] at h
      have hg : H.size ≤ g := by
        obtain ⟨p1, p2, p3, t, -, -, hF⟩ := T3.gt
        exact T3.fF g (by rw [hF]; simp)
      rw [back_open (by simp [closed]; omega)] at h
      exact ⟨g, q, ns, F3, E3, H3, h.symm, T3, gok, by omega⟩
    · left
      simp (maxDischargeDepth := 40) [a2, a3, a4, k3] at h
      exact h.symm
end Go.Proofs.Ytiaoojghohfkjaa

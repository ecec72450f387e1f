/- The law EvalSwap. -/
import Derived.Test.YtiaoojghohfkjaaEQ
namespace Go.Proofs.Ytiaoojghohfkjaa
set_option maxRecDepth 100000
set_option maxHeartbeats 4000000

theorem vl_eq2 {a b : Vl} : (decide (a.w = b.w) && (decide (lo a.n = lo b.n) && decide (hi a.n = hi b.n))) = decide (a = b) := by rw [vl_eq, Bool.and_assoc]
theorem swap_run {H : AHeap} {l : List Nd} {s : AV} {env : List Nm} (hs : ∀ H, RN H s env) {id to : Int} : R f_plaitlaw4_EvalSwap [NL l, s, .int .i64 id, .int .i64 to] H = some (.bool true, H) := by
  generalize h : R f_plaitlaw4_EvalSwap _ _ = r
  have hk := fun H => known4_run (H := H)
  have hlen := (hs H).len
  rw [e_plaitlaw4_EvalSwap] at h
  by_cases c1 : (50 : Int) < env.length
  · simp (maxDischargeDepth := 40) [c_plaitlaw4_EvalSwap, hk, hlen, c1] at h
    exact h.symm
  have hm : env.length ≤ 1000000 := by omega
  simp (maxDischargeDepth := 40) [c_plaitlaw4_EvalSwap, hk, hlen, c1] at h
  generalize hM : R f_plaitlaw4_made _ _ = q at h
  rcases made_run hM with rfl | ⟨g, q, ns, F, E, H1, rfl, T, gok, hnl⟩
  · simp (maxDischargeDepth := 40) at h
    exact h.symm
  have k1 := T.kp
  have hLen : ∀ H', Keeps H1 H' → R f_plait_term_Graph_Len [.ptr g 0] H' = some (.int .i64 ns.length, H') := fun H' k => by
    obtain ⟨o1, o2, o3, t, -, -, -⟩ := T.gt.keeps k
    exact len_run t
  have hL1 := hLen H1 (Keeps.refl _)
  by_cases c2 : (ns.length : Int) = 0
  · have c2' : ns.length = 0 := by omega
    rw [c2'] at hL1
    simp (maxDischargeDepth := 40) [hL1, k1] at h
    exact h.symm
  have hne : ¬ ns = [] := by rintro rfl; exact c2 rfl
  have hp1 := fun H => place_run (k := id) (n := ns.length) (by omega) (by omega) (H := H)
  have hp2 := fun H => place_run (k := to) (n := ns.length) (by omega) (by omega) (H := H)
  have b1 := Int.emod_nonneg id c2
  have b2 := Int.emod_lt_of_pos id (show (0 : Int) < ns.length by omega)
  have b3 := Int.emod_nonneg to c2
  have b4 := Int.emod_lt_of_pos to (show (0 : Int) < ns.length by omega)
  generalize id % (ns.length : Int) = id' at *
  generalize to % (ns.length : Int) = to' at *
  obtain ⟨i, rfl⟩ := Int.eq_ofNat_of_zero_le b1
  obtain ⟨j, rfl⟩ := Int.eq_ofNat_of_zero_le b3
  have w1 : IntKind.i64.wrap (1 + (i : Int)) = 1 + (i : Int) := i64w (by omega) (by omega)
  have w2 : IntKind.i64.wrap (1 + (j : Int)) = 1 + (j : Int) := i64w (by omega) (by omega)
  obtain ⟨v, hv, hvr⟩ := complete_run T.gt (hs H1) hm
  have gfit := full_fit (look := lookL env) gok
  have hel : (fullS (lookL env) ns (varsT ns ns.length)).length ≤ 1000000 := by
    unfold fullS
    rw [List.length_map]
    have := varsT_len ns ns.length
    omega
  generalize fullS (lookL env) ns (varsT ns ns.length) = env' at *
  obtain ⟨n, hn⟩ : ∃ n, ns[i]? = some n := ⟨ns[i]'(by omega), List.getElem?_eq_getElem (by omega)⟩
  have hnode : ∀ H', Keeps H1 H' → R f_plait_term_Graph_Node [.ptr g 0, .int .i64 (1 + (i : Int))] H' = some (.tup [.agg n.cs, .bool true], H') := fun H' k' => by
    obtain ⟨p1, p2, p3, tg, -⟩ := T.gt.keeps k'
    have := node_run tg (id := 1 + (i : Int))
    have hns : nodeS ns (1 + (i : Int)) = some n := by
      unfold nodeS
      rw [if_neg (by omega), show (1 + (i : Int) - 1).toNat = i from by omega, hn]
    rw [hns] at this
    exact this
  have hE : ∀ (x : Int), 1 ≤ x → x ≤ ns.length → ∀ H', Keeps H1 H' → R f_eval_Eval [.ptr g 0, .int .i64 x, v] H' = some (.tup [(V (lookL env') ns x).av, .int .i64 0], H') := fun x h1 h2 H' k => by
    have := eval_run (T.gt.keeps k) gok (hvr H') hel (id := x)
    rw [gfit.worth h1 h2] at this
    exact this
  have z1 : H.size ≤ H1.size := k1.size
  obtain ⟨⟨a0, a1⟩, ⟨d0, d1⟩, ⟨f0, f1⟩⟩ := gok.kok i n hn
  have hcs : n.cs = [.int .i64 n.op, .int .i64 n.sort, .int .i64 n.a, .int .i64 n.b, .int .i64 n.c, .int .i64 n.p, .int .i64 n.q, .int .i64 n.vw, u n.vl, u n.vh, .str n.name] := rfl
  rw [hcs] at hnode
  by_cases ha : n.a = 0
  · simp (maxDischargeDepth := 40) [hL1, hne, hp1, hp2, w1, w2, hv, hnode, ha, k1, z1] at h
    exact h.symm
  have e1 := hE n.a (by omega) (by omega)
  have e2 := hE (1 + (j : Int)) (by omega) (by omega)
  have e3 := hE (1 + (i : Int)) (by omega) (by omega)
  by_cases hvv : V (lookL env') ns n.a = V (lookL env') ns (1 + (j : Int))
  rotate_left
  · have hq := vl_eq2 (a := V (lookL env') ns n.a) (b := V (lookL env') ns (1 + (j : Int)))
    rw [decide_eq_false hvv] at hq
    clear gfit
    generalize V (lookL env') ns n.a = X at *
    generalize V (lookL env') ns (1 + (j : Int)) = Y at *
    simp (maxDischargeDepth := 40) [hL1, hne, hp1, hp2, w1, w2, hv, hnode, ha, e1, e2, hq, k1, z1] at h
    exact h.symm
  obtain ⟨js, m, hmk, m1, m2, gj, jf, hvj⟩ := swap_law gok gfit hnl hn ha (to := 1 + (j : Int)) (by omega) (by omega) hvv
  rw [hvv] at e1
  rw [show (i : Int) + 1 = 1 + (i : Int) from by omega] at hvj
  generalize V (lookL env') ns (1 + (j : Int)) = Y at *
  generalize V (lookL env') ns (1 + (i : Int)) = X at *
  simp (maxDischargeDepth := 40) [hL1, hne, hp1, hp2, w1, w2, hv, hnode, ha, e1, e2, e3] at h
  generalize hN : R f_plait_term_Graph_Make _ _ = q at h
  obtain ⟨H6, F6, rfl, g6, m6⟩ := GvT.go (n := { n with a := 1 + (j : Int) }) (T.gt.keeps (by simp (maxDischargeDepth := 40))) hmk hN
  clear hN
  have hnF : H1.size + 1 + 1 + 1 ∉ F := fun hF => by have := T.gt.lt _ hF; omega
  have o18 : H6.obj (H1.size + 1 + 1 + 1) = .cells [.int .i64 X.w, u (lo X.n), u (hi X.n)] := (m6.fr.obj _ (by simp) hnF).trans (by simp)
  have z6 := m6.fr.size
  simp only [set_size, new_size] at z6
  have k6 : Keeps H H6 := m6.fr.keeps (k1.trans (by simp (maxDischargeDepth := 40))) T.fF
  have z7 : H.size ≤ H6.size := k6.size
  have n7 : ¬ H1.size + 1 + 1 + 1 = H6.size := by omega
  have e6 : R f_eval_Eval [.ptr g 0, .int .i64 m, v] H6 = some (.tup [X.av, .int .i64 0], H6) := by
    have := eval_run g6 gj (hvr H6) hel (id := m)
    rw [jf.worth m1 m2, hvj] at this
    exact this
  simp (maxDischargeDepth := 40) [e6, o18, n7, k6, z7] at h
  exact h.symm
end Go.Proofs.Ytiaoojghohfkjaa

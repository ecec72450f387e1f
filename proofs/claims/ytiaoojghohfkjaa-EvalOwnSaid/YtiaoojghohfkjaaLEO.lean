/- The law EvalOwn. -/
import Derived.Test.YtiaoojghohfkjaaER
namespace Go.Proofs.Ytiaoojghohfkjaa
set_option maxRecDepth 100000
set_option maxHeartbeats 4000000

theorem own_loop0 {H0 H : AHeap} {g : Nat} {ns : List Nd} {F : List Nat} (G : GT H0 g 4096 ns F) {v s : AV} {env : List Nm} (hv : ∀ H, RN H v env) (hel : env.length ≤ 1000000) {xs : List Int} (hxl : xs.length ≤ 1000000) (k0 : Keeps H0 H)
    {e : Env} {r : Rn} (hL : loopL Go.Proofs.Try.prog KT R l_plaitlaw4_EvalOwn_0 e H = r) (e1 : e 1 = some v) (e9 : e 9 = some (.ptr g 0)) (e16 : e 16 = some s) (e17 : e 17 = some .nils) (e18 : e 18 = some (.int .i64 0)) (hs : ∀ H, RI H s xs) :
    ∃ y e' H', r = some (y, e', H') ∧ (y = .exit 0 ∧ Keeps H H' ∧ ∃ w, e' 17 = some w ∧ OutC H H' w 4 (env.filter fun n => decide (vnum ns n.name ∈ xs)).length (flatN (env.filter fun n => decide (vnum ns n.name ∈ xs)))) ∧ ∀ t, t ∉ defs l_plaitlaw4_EvalOwn_0 → e' t = e t := by
  refine loop_count l_plaitlaw4_EvalOwn_0.eq_1 hL env.length (fun i e1 H1 => e1 18 = some (.int .i64 i) ∧ Keeps H H1 ∧ ∃ w, e1 17 = some w ∧ OutC H H1 w 4 ((env.take i).filter fun n => decide (vnum ns n.name ∈ xs)).length (flatN ((env.take i).filter fun n => decide (vnum ns n.name ∈ xs)))) _ 0 (by omega)
    ⟨e18, Keeps.refl _, .nils, e17, by simp; exact OutC.nils⟩ ?_ ?_
  · rintro i f H1 hf - hlt ⟨f18, k, w, f17, hw⟩
    have w1 := i64w (n := (i : Int) + 1) (by omega) (by omega)
    have c1 : (i : Int) < env.length := by omega
    obtain ⟨x, hx⟩ : ∃ x, env[i]? = some x := ⟨env[i], by simp [hlt]⟩
    have hvc : v = .lst 4 env.length (flatN env) := (const_reads hv).resolve_left (by omega)
    have hat := flatN_at hx
    have hat0 := flatN_get hx
    have hfl := flatN_len env
    have hle : i * 4 + 4 ≤ env.length * 4 := by omega
    have hle0 : i * 4 < env.length * 4 := by omega
    have hvar : ∀ H', Keeps H1 H' → R f_plait_term_Graph_Var [.ptr g 0, .str x.name] H' = some (.tup [.int .i64 (vnum ns x.name), .bool (vidx ns x.name).isSome], H') := fun H' k' => by
      obtain ⟨o1, o2, o3, t, -, -, -⟩ := G.keeps ((k0.trans k).trans k')
      have := var_run t (s := x.name)
      rw [var_num] at this
      exact this
    have hvar1 := hvar H1 (Keeps.refl _)
    have ht : env.take (i + 1) = env.take i ++ [x] := by rw [List.take_add_one, hx]; rfl
    rw [ht, List.filter_append]
    simp (maxDischargeDepth := 20) [hf, e1, e9, e16, f18, hvc, c1, hfl, hat0, hvar1]
    generalize hL2 : loopL _ _ _ _ _ _ = q
    obtain ⟨y2, e2, H2, rfl, ⟨rfl, rfl, f21⟩, fr2⟩ := own_loop1 (hs H1) hxl (x := vnum ns x.name) hL2 (by simp [hf, e16]) (by simp) (by simp) (by simp)
    have hfl2 : ((env.take i).filter fun n => decide (vnum ns n.name ∈ xs)).length ≤ 1000000 := Nat.le_trans (List.length_filter_le _ _) (by simp; omega)
    by_cases c : vnum ns x.name ∈ xs
    · rw [decide_eq_true c] at f21
      have key : ∀ (r : Option (AV × AHeap)), appU (H2.new (.cells [.str x.name, .int .i64 x.v.w, u (lo x.v.n), u (hi x.v.n)])) w (.row H2.size 0 4 1 true) (some (4, 40, [.str .empty, .int .i64 0, u 0#64, u 0#64])) = r → ∃ v' H', r = some (v', H') ∧ OutC H H' v' 4 (((env.take i).filter fun n => decide (vnum ns n.name ∈ xs)).length + 1) (flatN (((env.take i).filter fun n => decide (vnum ns n.name ∈ xs)) ++ [x])) ∧ Keeps H H' := fun r hA => by
        obtain ⟨v', H', h1, h2, h3, -⟩ := hw.push k hA rfl rfl (by omega) (by omega) (by omega) rfl
        refine ⟨v', H', h1, ?_, h3⟩
        rw [flatN_append]
        simpa [flatN, Nm.cs, Vl.cs] using h2
      simp (maxDischargeDepth := 20) [fr2, hf, e1, f17, f18, f21, hvc, c1, hfl, hle, hat, Nm.cs, Vl.cs]
      generalize hA : appU _ _ _ _ = q
      obtain ⟨v', H', rfl, h2, h3⟩ := key q hA
      simp [fr2, f18, w1, h3, c]
      exact h2
    · rw [decide_eq_false c] at f21
      simp (maxDischargeDepth := 20) [fr2, hf, f17, f18, f21, w1, k, c]
      exact hw
  · rintro f H1 hf ⟨f18, k, w, f17, hw⟩
    rw [List.take_of_length_le (Nat.le_refl _)] at hw
    have hlen := (hv H1).len
    simp [hf, e1, f18, hlen]
    exact ⟨k, w, f17, hw⟩
theorem allOne_append : ∀ (l m : List AV), allOne l = true → allOne m = true → allOne (l ++ m) = true
  | [], _, _, h => h
  | a :: l, m, h, k => by
    simp only [allOne, List.cons_append, Bool.and_eq_true] at h ⊢
    exact ⟨h.1, allOne_append l m h.2 k⟩
theorem allOne_nms : ∀ l : List Nm, allOne (flatN l) = true
  | [] => rfl
  | x :: l => allOne_append _ _ (allOne_nm x) (allOne_nms l)
theorem own_run {H : AHeap} {l : List Nd} {s t : AV} {env other : List Nm} (hs : ∀ H, RN H s env) (ht : ∀ H, RN H t other) {id : Int} : R f_plaitlaw4_EvalOwn [NL l, s, t, .int .i64 id] H = some (.bool true, H) := by
  generalize h : R f_plaitlaw4_EvalOwn _ _ = r
  have hk := fun H => known4_run (H := H)
  have hlen := (hs H).len
  have hlent := (ht H).len
  rw [e_plaitlaw4_EvalOwn] at h
  by_cases c1 : (50 : Int) < env.length
  · simp (maxDischargeDepth := 40) [c_plaitlaw4_EvalOwn, hk, hlen, c1] at h
    exact h.symm
  by_cases c1' : (50 : Int) < other.length
  · simp (maxDischargeDepth := 40) [c_plaitlaw4_EvalOwn, hk, hlen, hlent, c1, c1'] at h
    exact h.symm
  have hm : env.length ≤ 1000000 := by omega
  simp (maxDischargeDepth := 40) [c_plaitlaw4_EvalOwn, hk, hlen, hlent, c1, c1'] at h
  generalize hM : R f_plaitlaw4_made _ _ = q at h
  rcases made_run hM with rfl | ⟨g, q, ns, F, E, H1, rfl, T, gok, hnl⟩
  · simp (maxDischargeDepth := 40) at h
    exact h.symm
  have k1 := T.kp
  have hL1 : R f_plait_term_Graph_Len [.ptr g 0] H1 = some (.int .i64 ns.length, H1) := by
    obtain ⟨o1, o2, o3, t, -, -, -⟩ := T.gt
    exact len_run t
  by_cases c2 : (ns.length : Int) = 0
  · have c2' : ns.length = 0 := by omega
    rw [c2'] at hL1
    simp (maxDischargeDepth := 40) [hL1, k1] at h
    exact h.symm
  have hne : ¬ ns = [] := by rintro rfl; exact c2 rfl
  have hp1 := fun H => place_run (k := id) (n := ns.length) (by omega) (by omega) (H := H)
  have b1 := Int.emod_nonneg id c2
  have b2 := Int.emod_lt_of_pos id (show (0 : Int) < ns.length by omega)
  generalize id % (ns.length : Int) = id' at *
  obtain ⟨i, rfl⟩ := Int.eq_ofNat_of_zero_le b1
  have w1 : IntKind.i64.wrap (1 + (i : Int)) = 1 + (i : Int) := i64w (by omega) (by omega)
  obtain ⟨v, hv, hvr⟩ := complete_run T.gt (hs H1) hm
  have gfit := full_fit (look := lookL env) gok
  have hown := own_law gok (look := lookL env) (id := 1 + (i : Int)) (by omega) (by omega) other
  have hel : (fullS (lookL env) ns (varsT ns ns.length)).length ≤ 1000 := by
    unfold fullS
    rw [List.length_map]
    have := varsT_len ns ns.length
    omega
  generalize fullS (lookL env) ns (varsT ns ns.length) = env' at *
  obtain ⟨n, hn⟩ : ∃ n, ns[i]? = some n := ⟨ns[i]'(by omega), List.getElem?_eq_getElem (by omega)⟩
  have hnode : ∀ H', Keeps H1 H' → R f_plait_term_Graph_Node [.ptr g 0, .int .i64 (1 + (i : Int))] H' = some (.tup [.agg n.cs, .bool true], H') := fun H' k' => by
    obtain ⟨p1, p2, p3, tg, -⟩ := T.gt.keeps k'
    have := node_run tg (id := 1 + (i : Int))
    have hns : nodeS ns (1 + (i : Int)) = some n := by
      unfold nodeS
      rw [if_neg (by omega), show (1 + (i : Int) - 1).toNat = i from by omega, hn]
    rw [hns] at this
    exact this
  have e1 : ∀ H', Keeps H1 H' → R f_eval_Eval [.ptr g 0, .int .i64 (1 + (i : Int)), v] H' = some (.tup [(V (lookL env') ns (1 + (i : Int))).av, .int .i64 0], H') := fun H' k => by
    have := eval_run (T.gt.keeps k) gok (hvr H') (by omega) (id := 1 + (i : Int))
    rw [gfit.worth (by omega) (by omega)] at this
    exact this
  have hw := (gfit.good gok hn).2
  rw [show (i : Int) + 1 = 1 + (i : Int) from by omega] at hw
  have hcs : n.cs = [.int .i64 n.op, .int .i64 n.sort, .int .i64 n.a, .int .i64 n.b, .int .i64 n.c, .int .i64 n.p, .int .i64 n.q, .int .i64 n.vw, u n.vl, u n.vh, .str n.name] := rfl
  rw [hcs] at hnode
  generalize V (lookL env') ns (1 + (i : Int)) = X at *
  obtain ⟨cv, hcv⟩ : ∃ cv : AHeap → AV, ∀ H', Keeps H1 H' → R f_plait_term_Graph_Cone [.ptr g 0, .int .i64 (1 + (i : Int))] H' = some (cv H', H') ∧ ∀ H2, RI H2 (cv H') (coneT ns (1 + (i : Int))) :=
    choose_on AV.nils (Q := fun H' => Keeps H1 H') (P := fun H' v => R f_plait_term_Graph_Cone [.ptr g 0, .int .i64 (1 + (i : Int))] H' = some (v, H') ∧ ∀ H2, RI H2 v (coneT ns (1 + (i : Int)))) fun H' k => by
      obtain ⟨v, h1, h2⟩ := cone_run2 (T.gt.keeps k) (id := 1 + (i : Int))
      exact ⟨v, h1, h2⟩
  have hc1 := fun H' k => (hcv H' k).1
  simp (maxDischargeDepth := 40) [hL1, hne, hp1, w1, hv, e1, hnode, hc1, hw] at h
  generalize hL : loopL _ _ _ _ _ _ = q at h
  have hcl : (coneT ns (1 + (i : Int))).length ≤ 1000000 := by
    unfold coneT
    rw [if_neg (by omega)]
    have := outT_len (coneM ns (1 + (i : Int)).toNat) ((1 + (i : Int)).toNat + 1)
    omega
  obtain ⟨y, e2, H3, rfl, ⟨rfl, k3, w, e17, hout⟩, fr⟩ := own_loop0 T.gt hvr (by omega) hcl (by simp (maxDischargeDepth := 40)) hL (by simp) (by simp) (by simp; rfl) (by simp) (by simp) (fun H2 => (hcv _ (by simp (maxDischargeDepth := 40))).2 H2)
  obtain ⟨K, hK⟩ : ∃ K, K = ((((H1.new (AObj.cells [AV.int IntKind.i64 0, u 0#64, u 0#64])).set H1.size (AObj.cells [AV.int IntKind.i64 n.sort, u (lo X.n), u (hi X.n)])).new (AObj.cells [AV.int IntKind.i64 0, AV.int IntKind.i64 0, AV.int IntKind.i64 0, AV.int IntKind.i64 0, AV.int IntKind.i64 0, AV.int IntKind.i64 0, AV.int IntKind.i64 0, AV.int IntKind.i64 0, u 0#64, u 0#64, AV.str ByteArray.empty])).set (H1.size + 1) (AObj.cells [AV.int IntKind.i64 n.op, AV.int IntKind.i64 n.sort, AV.int IntKind.i64 n.a, AV.int IntKind.i64 n.b, AV.int IntKind.i64 n.c, AV.int IntKind.i64 n.p, AV.int IntKind.i64 n.q, AV.int IntKind.i64 n.vw, u n.vl, u n.vh, AV.str n.name])) := ⟨_, rfl⟩
  have kK : Keeps H1 K := by rw [hK]; simp (maxDischargeDepth := 40)
  have zK : K.size = H1.size + 2 := by rw [hK]; simp
  have oK : K.obj H1.size = .cells [.int .i64 n.sort, u (lo X.n), u (hi X.n)] := by rw [hK]; simp
  rw [← hK] at k3 hout
  clear hL hK
  simp (maxDischargeDepth := 40) [e17, fr] at h
  generalize hA : appU _ _ _ _ = q at h
  have hfl : (env'.filter fun n => decide (vnum ns n.name ∈ coneT ns (1 + (i : Int)))).length ≤ 1000 := Nat.le_trans (List.length_filter_le _ _) hel
  obtain ⟨v', H4, rfl, -, f4, -, rd4⟩ := app_any hA hout.rd hout.gr (ht H3) rfl (by omega) (by omega) (by omega) (allOne_nms other)
  have k4 : Keeps K H4 := f4.keeps k3 hout.new
  have k14 := kK.trans k4
  have rn4 : RN H4 v' ((env'.filter fun n => decide (vnum ns n.name ∈ coneT ns (1 + (i : Int)))) ++ other) := by
    unfold RN
    rw [List.length_append, flatN_append]
    exact rd4
  have e4 := eval_run (T.gt.keeps k14) gok rn4 (by rw [List.length_append]; omega) (id := 1 + (i : Int))
  rw [hown] at e4
  have o4 : H4.obj H1.size = .cells [.int .i64 n.sort, u (lo X.n), u (hi X.n)] := (k4.obj _ (by omega)).trans oK
  have z4 := k4.size
  have n4 : ¬ H1.size = H4.size := by omega
  have kk : Keeps H H4 := k1.trans k14
  have z5 : H.size ≤ H4.size := kk.size
  simp (maxDischargeDepth := 40) [fr, e4, o4, n4, kk, z5, hw] at h
  exact h.symm
end Go.Proofs.Ytiaoojghohfkjaa
